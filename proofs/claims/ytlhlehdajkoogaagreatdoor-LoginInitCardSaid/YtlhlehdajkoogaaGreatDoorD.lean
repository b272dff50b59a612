/- steps.Machine's Next: what a machine tells on an answer. -/
import Derived.Test.YtlhlehdajkoogaaGreatDoorA
import Derived.Laws.Rows
import Derived.LoopN
namespace Go.Proofs.YtlhlehdajkoogaaGreatDoor
open Go.RowKit

/-- All rows lie as they lay, but those that hold a call, and machines. -/
def Kb (w w' : World) : Prop := ∀ (b : Nat) (C : Array Value) (T : TypeId), T ≠ 39 → T ≠ MT → w.heap[b]? = some (.cells C T (0, 0)) → w'.heap[b]? = some (.cells C T (0, 0))
theorem Kb.refl (w : World) : Kb w w := fun _ _ _ _ _ h => h
theorem Kb.trans {a b c : World} (h : Kb a b) (k : Kb b c) : Kb a c := fun x C T h1 h2 h3 => k x C T h1 h2 (h x C T h1 h2 h3)
theorem Kb.below {w w' : World} (h : Below w.heap.size w w') : Kb w w' := fun b _ _ _ _ hb => (h.block b (lt_of_heap hb)).trans hb
theorem Kb.mo {w w' : World} {p : Nat} {m : Ma} (hM : M w p m) (h : Mo p w w') : Kb w w' := fun b C T _ h2 hb => (h.block b (lt_of_heap hb) (fun e => by
  subst e; unfold M at hM; rw [hb] at hM; injection hM with hM; injection hM with _ hM _; exact h2 hM)).trans hb
theorem Kb.setCells {w : World} {q : Nat} {Z : Array Value} (hq : w.heap[q]? = some (.cells Z 39 (0, 0))) (o : Nat) (vs : List Value) : Kb w (w.setCells q o vs) := fun b C T h1 _ hb => (heap_setCells_other (fun e => by
  subst e; rw [hb] at hq; injection hq with hq; injection hq with _ hq _; exact h1 hq) _ _ _).trans hb
/-- A machine that tells its call now. -/
def Ma.told (m : Ma) : Prop := (m.c.args.oneCell' = true ∧ m.c.env.oneCell' = true) ∧ ((∃ k fi ca, m.th = .func (.func k) fi ca ∧ m.over = false) ∨ (m.th = .nilFunc ∧ m.over = true))
theorem there_of {W : World} {R : Nat} {C : Array Value} {T : TypeId} (h : W.heap[R]? = some (.cells C T (0, 0))) : W.there R 0 C.size := fun j hj => by
  refine ⟨?_, frozen_of h _⟩
  rw [Nat.zero_add, cell_of h j]; simp [hj]
theorem M.range {w : World} {p : Nat} {m : Ma} (h : M w p m) : w.rangeAt p 7 m.c.cells.toList := fun j v hv => by
  rw [cell_of h]
  have hj : j < 20 := (List.getElem?_eq_some_iff.1 hv).1
  have e : m.cells.toList = m.cells.toList.take 7 ++ (m.c.cells.toList ++ [.bool m.over]) := rfl
  have : m.cells.toList[7 + j]? = some v := by
    rw [e, List.getElem?_append_right (by simp [Ma.cells]), List.getElem?_append_left (by simp [Ma.cells, Ca.cells]; omega)]
    have : 7 + j - (m.cells.toList.take 7).length = j := by simp [Ma.cells]
    rw [this]; exact hv
  simpa using this
set_option maxRecDepth 100000 in
set_option maxHeartbeats 4000000 in
theorem then_any {w : World} {p : Nat} {m : Ma} (h : M w p m) (hov : m.over = false) {k : Nat} {ca : Array Value} (hth : m.th = .func (.func k) #[] ca) (r : An) {R : Ma → World → Prop} (hR : ∀ m' w1 w2, Kb w1 w2 → R m' w1 → R m' w2)
    (hen : ∀ (args : Array Value) (w : World), (callFunc k args).run Tryz.prog w = .ok (.enter k args) w)
    (hk : ∀ w1, M w1 p { m with th := .nilFunc } → Kb w w1 → w.heap.size ≤ w1.heap.size → Calls Tryz.prog k (#[.pointer (some ⟨p, 0, none⟩), .agg r.cells] ++ ca) w1 fun e w' => e = .returned (.tuple #[]) ∧ ∃ m', M w' p m' ∧ m'.told ∧ Mo p w1 w' ∧ R m' w') :
    Calls Tryz.prog 28 #[.pointer (some ⟨p, 0, none⟩), .agg r.cells] w fun e w' => ∃ m', e = .returned (.agg m'.c.cells) ∧ M w' p m' ∧ m'.told ∧ Mo p w w' ∧ R m' w' := by
  obtain ⟨C, hC⟩ : ∃ C, r.cells = C := ⟨_, rfl⟩
  have hsz : C.size = 19 := by rw [← hC]; rfl
  rw [hC] at hk ⊢
  have HI : Hid ((Tryz.prog.info? 35).map (·.size) = some C.size) := Lib.hid (by rw [hsz]; rfl)
  have hnf : ∀ (W : World) (fn : Fn) (fi ca : Array Value), (binOp BinOp.neq 91 (.func fn fi ca) .nilFunc).run Tryz.prog W = .ok (.bool true) W := fun _ _ _ _ => rfl
  obtain ⟨wA, hwA⟩ : ∃ wA, (w.alloc (.cells C 35)).alloc (.cells ({ op := 0 } : Ca).cells 39) = wA := ⟨_, rfl⟩
  have hMA : M wA p m := by rw [← hwA]; exact (h.alloc _).alloc _
  have hmoA : Mo p w wA := by rw [← hwA]; exact ((Mo.refl p w).alloc _).alloc _
  have hbox : wA.heap[w.heap.size]? = some (.cells C 35 (0, 0)) := by rw [← hwA]; exact (alloc_heap_old _ _ (by rw [alloc_size]; omega)).trans (alloc_heap w _)
  have hres : wA.heap[w.heap.size + 1]? = some (.cells ({ op := 0 } : Ca).cells 39 (0, 0)) := by rw [← hwA]; have := alloc_heap (w.alloc (.cells C 35)) (.cells ({ op := 0 } : Ca).cells 39); rwa [alloc_size] at this
  have hltA : p < wA.heap.size := hMA.lt
  have hlt := h.lt
  unfold Ca.cells at hwA
  have x27 : wA.cell? ⟨p, 27, none⟩ = some (.bool false) := by rw [hMA.cell 27, ← hov]; rfl
  have x6 : wA.cell? ⟨p, 6, none⟩ = some (.func (.func k) #[] ca) := by rw [hMA.cell 6, ← hth]; rfl
  have f6 := frozen_of hMA 6
  have hst : (store ⟨p, 6, none⟩ .nilFunc).run Tryz.prog wA = .ok () (wA.setCell ⟨p, 6, none⟩ .nilFunc) := by
    rw [run_store _ _ _ _ _ rfl]
    simp [stored, x6, f6]
  obtain ⟨wS, hwS⟩ : ∃ wS, wA.setCell ⟨p, 6, none⟩ .nilFunc = wS := ⟨_, rfl⟩
  have hMS : M wS p { m with th := .nilFunc } := by rw [← hwS]; exact hMA.set 6 .nilFunc _ rfl
  have hmoS : Mo p w wS := by rw [← hwS]; exact hmoA.set _
  have hbS : wS.heap[w.heap.size]? = some (.cells C 35 (0, 0)) := by rw [← hwS]; exact (Below.heap_setCell _ _ _ _ (fun e => by have e' : w.heap.size = p := e; omega)).trans hbox
  have hrS : wS.heap[w.heap.size + 1]? = some (.cells ({ op := 0 } : Ca).cells 39 (0, 0)) := by rw [← hwS]; exact (Below.heap_setCell _ _ _ _ (fun e => by have e' : w.heap.size + 1 = p := e; omega)).trans hres
  rw [hwS] at hst
  have HK := Lib.hid (hk wS hMS (Kb.mo h hmoS) hmoS.size)
  have HB := Lib.hid hbS
  have HR := Lib.hid hrS
  have HMO := Lib.hid hmoS
  have HNP : Hid (w.heap.size + 1 ≠ p) := Lib.hid (by omega)
  clear h hC hMA hmoA hbox hres hltA f6 hwS hMS hmoS hbS hrS hk
  go_enter Tryz.func28, Tryz.ntmps28
  go_wp2_with (refine wpList_load_row rfl 35 _ rfl w.heap.size rfl 35 C (0, 0) _ HB.out Tryz.underlying35 rfl HI.out ?_)
  refine HK.out.mono ?_
  rintro e w2 ⟨rfl, m', h1, h2, h3, h4⟩
  have hr2 := (h3.block (w.heap.size + 1) (lt_of_heap HR.out) HNP.out).trans HR.out
  have hmo2 := HMO.out.trans h3
  have HH : Hid (m'.c.cells.size = 20) := Lib.hid rfl
  have HL : Hid ((Tryz.prog.info? 39).map (·.size) = some m'.c.cells.toList.length) := Lib.hid rfl
  have HS : Hid ((Tryz.prog.info? 39).map (·.size) = some m'.c.cells.size) := Lib.hid rfl
  have H1 : Hid (m'.c.cells.all (·.oneCell') = true) := Lib.hid (Ca.one _ h2.1.1 h2.1.2)
  have HRG := Lib.hid h1.range
  have hwr := heap_setCells m'.c.cells.toList 0 _ w2 hr2
  have hput : putA ({ op := 0 } : Ca).cells 0 m'.c.cells.toList = m'.c.cells := putA_whole rfl
  rw [hput] at hwr
  have HT : Hid (w2.there (w.heap.size + 1) 0 m'.c.cells.size) := Lib.hid (show w2.there (w.heap.size + 1) 0 (({ op := 0 } : Ca).cells.size) from there_of hr2)
  obtain ⟨w4, hw4⟩ : ∃ w4, w2.setCells (w.heap.size + 1) 0 m'.c.cells.toList = w4 := ⟨_, rfl⟩
  have hM4 : M w4 p m' := by rw [← hw4]; exact (heap_setCells_other (fun e => HNP.out e.symm) _ _ _).trans h1
  have hkb : Kb w2 w4 := by rw [← hw4]; exact Kb.setCells hr2 _ _
  have hmo4 : Mo p w w4 := by
    rw [← hw4]
    exact ⟨(setCells_os _ _ _).1.trans hmo2.os, (setCells_os _ _ _).2.1.trans hmo2.tape, (setCells_os _ _ _).2.2.trans hmo2.output, by rw [setCells_size]; exact hmo2.size, fun k hk hb => (heap_setCells_other (by omega) _ _ _).trans (hmo2.block k hk hb)⟩
  rw [hw4] at hwr
  have HW4 := Lib.hid hwr
  have HM4 := Lib.hid hM4
  have HMO4 := Lib.hid hmo4
  have HRR := Lib.hid (hR m' w2 w4 hkb h4)
  have HTD := Lib.hid h2
  obtain ⟨_, h2⟩ := h2
  have y6 : w2.cell? ⟨p, 6, none⟩ = some m'.th := h1.cell 6
  have y27 : w2.cell? ⟨p, 27, none⟩ = some (.bool m'.over) := h1.cell 27
  have hef : ∀ (W : World) (fn : Fn) (fi ca : Array Value), (binOp BinOp.eql 91 (.func fn fi ca) .nilFunc).run Tryz.prog W = .ok (.bool false) W := fun _ _ _ _ => rfl
  have hee : ∀ (W : World), (binOp BinOp.eql 91 .nilFunc .nilFunc).run Tryz.prog W = .ok (.bool true) W := fun _ => rfl
  clear h3 h4 hr2 hmo2 hput hwr hM4 hkb hmo4 HK HB HR HMO HNP hst x27 x6 hwA hnf hsz HI hov hth hR h1 hlt
  obtain ⟨CC, hCC⟩ : ∃ CC, m'.c.cells = CC := ⟨_, rfl⟩
  rw [hCC] at HH HL HS H1 HRG HT hw4 HW4
  have HCC := Lib.hid hCC
  have HTL : Hid (w2.there (w.heap.size + 1) 0 CC.size) := HT
  clear hCC
  rcases h2 with ⟨k2, fi2, ca2, e1, e2⟩ | ⟨e1, e2⟩ <;> rw [e1] at y6 <;> rw [e2] at y27 <;> clear e1 e2
  all_goals
    go_wp2_with fail
    refine wp_loop_rounds 1 ?_
    rw [rounds_succ]
    go_wp2_with (first | (refine wpList_load_mid rfl 39 _ rfl p 7 rfl CC.toList _ HRG.out Tryz.underlying39 rfl HL.out ?_) | (refine wpList_store_mid rfl 39 _ _ rfl (w.heap.size + 1) 0 CC rfl rfl HT.out HS.out H1.out ?_; rw [hw4]; clear hw4))
    exact bodyPost_ret (v := .agg CC) (results_cell_row rfl _ w4 (w.heap.size + 1) 39 CC (0, 0) _ rfl HW4.out Tryz.underlying39 rfl HS.out) rfl ⟨m', by rw [HCC.out], HM4.out, HTD.out, HMO4.out, HRR.out⟩
end Go.Proofs.YtlhlehdajkoogaaGreatDoor
