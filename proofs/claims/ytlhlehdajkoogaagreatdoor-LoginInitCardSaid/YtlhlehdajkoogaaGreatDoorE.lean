/- steps.Machine's Next at a machine's beginning. -/
import Derived.Test.YtlhlehdajkoogaaGreatDoorD
namespace Go.Proofs.YtlhlehdajkoogaaGreatDoor
open Go.RowKit

set_option maxRecDepth 100000 in
set_option maxHeartbeats 4000000 in
theorem start_any {w : World} {p : Nat} {m : Ma} (h : M w p m) (hov : m.over = false) {k : Nat} {ca : Array Value} (hth : m.th = .nilFunc) {td cap : Nat} (htd : m.todo = .slice (some ⟨td, 0, none⟩) 1 cap) {cur : Array Value} (hst : w.heap[td]? = some (.cells cur 96 (0, 0))) (hc0 : cur[0]? = some (.func (.func k) #[] ca)) (hc1 : cur[1]? = some (.bool false)) (r : An) {R : Ma → World → Prop} (hR : ∀ m' w1 w2, Kb w1 w2 → R m' w1 → R m' w2)
    (hen : ∀ (args : Array Value) (w : World), (callFunc k args).run Tryz.prog w = .ok (.enter k args) w)
    (hk : ∀ w1, M w1 p { m with todo := .slice (some ⟨td, 0, none⟩) 0 cap } → Kb w w1 → w.heap.size ≤ w1.heap.size → Calls Tryz.prog k (#[.pointer (some ⟨p, 0, none⟩)] ++ ca) w1 fun e w' => e = .returned (.tuple #[]) ∧ ∃ m', M w' p m' ∧ m'.told ∧ Mo p w1 w' ∧ R m' w') :
    Calls Tryz.prog 28 #[.pointer (some ⟨p, 0, none⟩), .agg r.cells] w fun e w' => ∃ m', e = .returned (.agg m'.c.cells) ∧ M w' p m' ∧ m'.told ∧ Mo p w w' ∧ R m' w' := by
  obtain ⟨C, hC⟩ : ∃ C, r.cells = C := ⟨_, rfl⟩
  have hsz : C.size = 19 := by rw [← hC]; rfl
  rw [hC]
  have HI : Hid ((Tryz.prog.info? 35).map (·.size) = some C.size) := Lib.hid (by rw [hsz]; rfl)
  have hnn : ∀ (W : World), (binOp BinOp.neq 91 .nilFunc .nilFunc).run Tryz.prog W = .ok (.bool false) W := fun _ => rfl
  have hee : ∀ (W : World), (binOp BinOp.eql 91 .nilFunc .nilFunc).run Tryz.prog W = .ok (.bool true) W := fun _ => rfl
  obtain ⟨wA, hwA⟩ : ∃ wA, (w.alloc (.cells C 35)).alloc (.cells ({ op := 0 } : Ca).cells 39) = wA := ⟨_, rfl⟩
  have hMA : M wA p m := by rw [← hwA]; exact (h.alloc _).alloc _
  have hmoA : Mo p w wA := by rw [← hwA]; exact ((Mo.refl p w).alloc _).alloc _
  have hbox : wA.heap[w.heap.size]? = some (.cells C 35 (0, 0)) := by rw [← hwA]; exact (alloc_heap_old _ _ (by rw [alloc_size]; omega)).trans (alloc_heap w _)
  have hres : wA.heap[w.heap.size + 1]? = some (.cells ({ op := 0 } : Ca).cells 39 (0, 0)) := by rw [← hwA]; have := alloc_heap (w.alloc (.cells C 35)) (.cells ({ op := 0 } : Ca).cells 39); rwa [alloc_size] at this
  have hltA : p < wA.heap.size := hMA.lt
  have hlt := h.lt
  unfold Ca.cells at hwA
  have x27 : wA.cell? ⟨p, 27, none⟩ = some (.bool false) := by rw [hMA.cell 27, ← hov]; rfl
  have x6 : wA.cell? ⟨p, 6, none⟩ = some .nilFunc := by rw [hMA.cell 6, ← hth]; rfl
  have x5 : wA.cell? ⟨p, 5, none⟩ = some (.slice (some ⟨td, 0, none⟩) 1 cap) := by rw [hMA.cell 5, ← htd]; rfl
  have x4 : wA.cell? ⟨p, 4, none⟩ = some (.int .i64 0) := hMA.cell 4
  have f5 := frozen_of hMA 5
  have htdA : wA.heap[td]? = some (.cells cur 96 (0, 0)) := by rw [← hwA]; exact (alloc_heap_old _ _ (by rw [alloc_size]; have := lt_of_heap hst; omega)).trans ((alloc_heap_old _ _ (lt_of_heap hst)).trans hst)
  have t0 : wA.cell? ⟨td, 0, none⟩ = some (.func (.func k) #[] ca) := (cell_of htdA 0).trans hc0
  have t1 : wA.cell? ⟨td, 1, none⟩ = some (.bool false) := (cell_of htdA 1).trans hc1
  obtain ⟨wB, hwB⟩ : ∃ wB, wA.alloc (.cells #[.nilFunc, .bool false] 96) = wB := ⟨_, rfl⟩
  have hMB : M wB p m := by rw [← hwB]; exact hMA.alloc _
  have hB : wB.heap[wA.heap.size]? = some (.cells #[.nilFunc, .bool false] 96 (0, 0)) := by rw [← hwB]; exact alloc_heap _ _
  have HTB : Hid (wB.there wA.heap.size 0 (#[.func (.func k) #[] ca, .bool false] : Array Value).size) := Lib.hid (show wB.there wA.heap.size 0 (#[.nilFunc, .bool false] : Array Value).size from there_of hB)
  have HIB : Hid ((Tryz.prog.info? 96).map (·.size) = some (#[.func (.func k) #[] ca, .bool false] : Array Value).size) := Lib.hid rfl
  have HSB : Hid ((#[.func (.func k) #[] ca, .bool false] : Array Value).all (·.oneCell') = true) := Lib.hid (by simp [Value.oneCell'])
  obtain ⟨w5, hw5⟩ : ∃ w5, wB.setCells wA.heap.size 0 (#[.func (.func k) #[] ca, .bool false] : Array Value).toList = w5 := ⟨_, rfl⟩
  have h5B : w5.heap[wA.heap.size]? = some (.cells #[.func (.func k) #[] ca, .bool false] 96 (0, 0)) := by rw [← hw5]; exact heap_setCells _ _ _ _ hB
  have hM5 : M w5 p m := by rw [← hw5]; exact (heap_setCells_other (by omega) _ _ _).trans hMB
  have y5 : w5.cell? ⟨p, 5, none⟩ = some (.slice (some ⟨td, 0, none⟩) 1 cap) := by rw [hM5.cell 5, ← htd]; rfl
  have g5 := frozen_of hM5 5
  obtain ⟨w6, hw6⟩ : ∃ w6, w5.setCell ⟨p, 5, none⟩ (.slice (some ⟨td, 0, none⟩) 0 cap) = w6 := ⟨_, rfl⟩
  have hM6 : M w6 p { m with todo := .slice (some ⟨td, 0, none⟩) 0 cap } := by rw [← hw6]; exact hM5.set 5 _ _ rfl
  have hmo6 : Mo p w w6 := by
    rw [← hw6, ← hw5, ← hwB]
    refine Mo.set ⟨?_, ?_, ?_, ?_, ?_⟩ _
    · exact (setCells_os _ _ _).1.trans hmoA.os
    · exact (setCells_os _ _ _).2.1.trans hmoA.tape
    · exact (setCells_os _ _ _).2.2.trans hmoA.output
    · rw [setCells_size, alloc_size]; exact Nat.le_succ_of_le hmoA.size
    · intro b hb hne
      have := hmoA.size
      exact (heap_setCells_other (by omega) _ _ _).trans ((alloc_heap_old _ _ (by omega)).trans (hmoA.block b hb hne))
  have z4 : w6.cell? ⟨p, 4, none⟩ = some (.int .i64 0) := hM6.cell 4
  have h6B : w6.heap[wA.heap.size]? = some (.cells #[.func (.func k) #[] ca, .bool false] 96 (0, 0)) := by rw [← hw6]; exact (Below.heap_setCell _ _ _ _ (fun e => by have e' : wA.heap.size = p := e; omega)).trans h5B
  have z0 : w6.cell? ⟨wA.heap.size, 0, none⟩ = some (.func (.func k) #[] ca) := cell_of h6B 0
  have h6r : w6.heap[w.heap.size + 1]? = some (.cells ({ op := 0 } : Ca).cells 39 (0, 0)) := by
    have hl := lt_of_heap hres
    rw [← hw6]; refine (Below.heap_setCell _ _ _ _ (fun e => by have e' : w.heap.size + 1 = p := e; omega)).trans ?_
    rw [← hw5]; refine (heap_setCells_other (by omega) _ _ _).trans ?_
    rw [← hwB]; exact (alloc_heap_old _ _ hl).trans hres
  have HK := Lib.hid (hk w6 hM6 (Kb.mo h hmo6) hmo6.size)
  have HR := Lib.hid h6r
  have HMO := Lib.hid hmo6
  have HNP : Hid (w.heap.size + 1 ≠ p) := Lib.hid (by omega)
  have HWB := Lib.hid hwB
  have HW5 := Lib.hid hw5
  have HW6 := Lib.hid hw6
  clear h hC hMA hmoA hbox hres hltA hMB hB h5B hM5 hM6 hmo6 h6B h6r hk hwB hw5 hw6 htdA hst
  go_enter Tryz.func28, Tryz.ntmps28
  go_wp2_with fail
  refine wp_loop_rounds 2 ?_
  rw [rounds_succ]
  go_wp2_with (refine wpList_store_mid rfl 96 _ _ rfl wA.heap.size 0 #[.func (.func k) #[] ca, .bool false] rfl rfl (by rw [HWB.out]; exact HTB.out) HIB.out HSB.out ?_; rw [HWB.out, HW5.out]; have hw6 := HW6.out)
  refine HK.out.mono ?_
  rintro e w2 ⟨rfl, m', h1, h2, h3, h4⟩
  have hr2 := (h3.block (w.heap.size + 1) (lt_of_heap HR.out) HNP.out).trans HR.out
  have hmo2 := HMO.out.trans h3
  have HH : Hid (m'.c.cells.size = 20) := Lib.hid rfl
  have HL : Hid ((Tryz.prog.info? 39).map (·.size) = some m'.c.cells.toList.length) := Lib.hid rfl
  have HS : Hid ((Tryz.prog.info? 39).map (·.size) = some m'.c.cells.size) := Lib.hid rfl
  have H1 : Hid (m'.c.cells.all (·.oneCell') = true) := Lib.hid (Ca.one _ h2.1.1 h2.1.2)
  have HRG := Lib.hid h1.range
  have hwr := heap_setCells m'.c.cells.toList 0 _ w2 hr2
  have hput : putA ({ op := 0 } : Ca).cells 0 m'.c.cells.toList = m'.c.cells := putA_whole rfl
  rw [hput] at hwr
  have HT : Hid (w2.there (w.heap.size + 1) 0 m'.c.cells.size) := Lib.hid (show w2.there (w.heap.size + 1) 0 (({ op := 0 } : Ca).cells.size) from there_of hr2)
  obtain ⟨w4, hw4⟩ : ∃ w4, w2.setCells (w.heap.size + 1) 0 m'.c.cells.toList = w4 := ⟨_, rfl⟩
  have hM4 : M w4 p m' := by rw [← hw4]; exact (heap_setCells_other (fun e => HNP.out e.symm) _ _ _).trans h1
  have hkb : Kb w2 w4 := by rw [← hw4]; exact Kb.setCells hr2 _ _
  have hmo4 : Mo p w w4 := by
    rw [← hw4]
    exact ⟨(setCells_os _ _ _).1.trans hmo2.os, (setCells_os _ _ _).2.1.trans hmo2.tape, (setCells_os _ _ _).2.2.trans hmo2.output, by rw [setCells_size]; exact hmo2.size, fun k hk hb => (heap_setCells_other (by omega) _ _ _).trans (hmo2.block k hk hb)⟩
  rw [hw4] at hwr
  have HW4 := Lib.hid hwr
  have HM4 := Lib.hid hM4
  have HMO4 := Lib.hid hmo4
  have HRR := Lib.hid (hR m' w2 w4 hkb h4)
  have HTD := Lib.hid h2
  obtain ⟨_, h2⟩ := h2
  have y6 : w2.cell? ⟨p, 6, none⟩ = some m'.th := h1.cell 6
  have y27 : w2.cell? ⟨p, 27, none⟩ = some (.bool m'.over) := h1.cell 27
  have hef : ∀ (W : World) (fn : Fn) (fi ca : Array Value), (binOp BinOp.eql 91 (.func fn fi ca) .nilFunc).run Tryz.prog W = .ok (.bool false) W := fun _ _ _ _ => rfl
  clear h3 h4 hr2 hmo2 hput hwr hM4 hkb hmo4 HK HR HMO HNP x27 hsz HI hov hth hR h1 hlt hnn
  obtain ⟨CC, hCC⟩ : ∃ CC, m'.c.cells = CC := ⟨_, rfl⟩
  rw [hCC] at HH HL HS H1 HRG HT hw4 HW4
  have HCC := Lib.hid hCC
  have HTL : Hid (w2.there (w.heap.size + 1) 0 CC.size) := HT
  clear hCC
  rcases h2 with ⟨k2, fi2, ca2, e1, e2⟩ | ⟨e1, e2⟩ <;> rw [e1] at y6 <;> rw [e2] at y27 <;> clear e1 e2
  all_goals
    go_wp2_with (first | (rw [rounds_succ]) | (refine wpList_load_mid rfl 39 _ rfl p 7 rfl CC.toList _ HRG.out Tryz.underlying39 rfl HL.out ?_) | (refine wpList_store_mid rfl 39 _ _ rfl (w.heap.size + 1) 0 CC rfl rfl HT.out HS.out H1.out ?_; rw [hw4]; clear hw4))
    exact bodyPost_ret (v := .agg CC) (results_cell_row rfl _ w4 (w.heap.size + 1) 39 CC (0, 0) _ rfl HW4.out Tryz.underlying39 rfl HS.out) rfl ⟨m', by rw [HCC.out], HM4.out, HTD.out, HMO4.out, HRR.out⟩
end Go.Proofs.YtlhlehdajkoogaaGreatDoor
