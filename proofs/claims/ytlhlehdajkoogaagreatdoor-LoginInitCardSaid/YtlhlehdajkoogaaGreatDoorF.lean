/- login's Next; New's small steps. -/
import Derived.Test.YtlhlehdajkoogaaGreatDoorE
import Derived.StillTailTactics
import Derived.RegionTactic
import Derived.BigRegion
import Derived.Deep.RegionWith
namespace Go.Proofs.YtlhlehdajkoogaaGreatDoor
open Go.RowKit

abbrev LT : TypeId := 72
/-- A program, as it lies. -/
def L (w : World) (l p : Nat) : Prop := w.heap[l]? = some (.cells #[.pointer (some ⟨p, 0, none⟩)] LT (0, 0))
theorem L.kb {w w' : World} {l p : Nat} (h : L w l p) (k : Kb w w') : L w' l p := k _ _ _ (by decide) (by decide) h
/-- What a program tells, and what is then. -/
def NextP (p : Nat) (w : World) (R : Ma → World → Prop) (e : Ending) (w' : World) : Prop := ∃ m', e = .returned (.agg m'.c.cells) ∧ M w' p m' ∧ m'.told ∧ Mo p w w' ∧ R m' w'
theorem still_load_row {P : Program} {o : Oper} {a : Act} {w : World} {K : Act → Prop} (ty : TypeId) (x : Operand) (ho : o.op = .load ty x)
    (g : Nat) (hx : a.eval x = .pointer (some ⟨g, 0, none⟩)) (t : TypeId) (cs : Array Value) (fr : Nat × Nat) (d : TypeDesc) (hg : w.heap[g]? = some (.cells cs t fr))
    (hu : P.underlying ty = some d) (hd : (match d with | .struct _ | .array _ _ => true | _ => false) = true) (hi : (P.info? ty).map (·.size) = some cs.size)
    (h : K (a.put o.dst (.agg cs))) : o.still P a w K := by
  unfold Oper.still execOp
  simp only [ho, hx, Instr.loadAt, Instr.sureAddr, Sem.run_bind, Sem.run_pure, Result.andThen_ok, run_loadVar_row w g t ty cs fr d hg hu hd hi]
  exact ⟨rfl, h⟩
set_option maxRecDepth 100000 in
set_option maxHeartbeats 4000000 in
theorem lnext_any {w : World} {l p : Nat} {m : Ma} (hl : L w l p) (h : M w p m) (r : An) {R : Ma → World → Prop} (hR : ∀ m' w1 w2, Kb w1 w2 → R m' w1 → R m' w2)
    (hN : ∀ w1, M w1 p m → Kb w w1 → w.heap.size ≤ w1.heap.size → Calls Tryz.prog 28 #[.pointer (some ⟨p, 0, none⟩), .agg r.cells] w1 (NextP p w1 R)) :
    Calls Tryz.prog 14 #[.pointer (some ⟨l, 0, none⟩), .agg r.cells] w (NextP p w R) := by
  obtain ⟨wA, hwA⟩ : ∃ wA, (w.alloc (.cells r.cells 35)).alloc (.cells ({ op := 0 } : Ca).cells 39) = wA := ⟨_, rfl⟩
  have hMA : M wA p m := by rw [← hwA]; exact (h.alloc _).alloc _
  have hmoA : Mo p w wA := by rw [← hwA]; exact ((Mo.refl p w).alloc _).alloc _
  have hbox : wA.heap[w.heap.size]? = some (.cells r.cells 35 (0, 0)) := by rw [← hwA]; exact (alloc_heap_old _ _ (by rw [alloc_size]; omega)).trans (alloc_heap w _)
  have hres : wA.heap[w.heap.size + 1]? = some (.cells ({ op := 0 } : Ca).cells 39 (0, 0)) := by rw [← hwA]; have := alloc_heap (w.alloc (.cells r.cells 35)) (.cells ({ op := 0 } : Ca).cells 39); rwa [alloc_size] at this
  have hkA : Kb w wA := Kb.mo h hmoA
  have xl : wA.cell? ⟨l, 0, none⟩ = some (.pointer (some ⟨p, 0, none⟩)) := cell_of (hl.kb hkA) 0
  have HN := Lib.hid (hN wA.drew (hMA.below (Below.refl _ _).drew) (hkA.trans (Kb.below (Below.refl _ _).drew)) hmoA.drew.size)
  have HR : Hid (wA.drew.heap[w.heap.size + 1]? = some (.cells ({ op := 0 } : Ca).cells 39 (0, 0))) := Lib.hid hres
  have HB : Hid (wA.drew.heap[w.heap.size]? = some (.cells r.cells 35 (0, 0))) := Lib.hid hbox
  have HMO := Lib.hid hmoA.drew
  have HNP : Hid (w.heap.size + 1 ≠ p) := Lib.hid (by have := h.lt; omega)
  have HI : Hid ((Tryz.prog.info? 35).map (·.size) = some r.cells.size) := Lib.hid rfl
  obtain ⟨C, hC⟩ : ∃ C, r.cells = C := ⟨_, rfl⟩
  rw [hC] at hwA HN HB HI ⊢
  clear hN h hl hMA hmoA hbox hres hkA hC
  unfold Ca.cells at hwA
  go_enter Tryz.func14, Tryz.ntmps14
  go_wp2_with fail
  have hu : Tryz.prog.underlying 35 = _ := Tryz.underlying35
  refine wp_region_still_tail 5 (by kernel_rfl) (by kernel_rfl) ?_
  simp only [List.take_succ_cons, List.take_zero, List.drop_succ_cons, List.drop_zero]
  still_step
  still_step
  still_step
  still_step
  refine wpStill_step (fun K hK => ?_)
  rw [if_pos (show Region.wanted _ _ = true from rfl)]
  refine still_load_row 35 _ rfl w.heap.size rfl 35 C (0, 0) _ HB.out hu rfl HI.out (hK _ ?_)
  clear hK K hu
  refine wpStill_nil ?_
  go_wp2_with fail
  refine HN.out.mono ?_
  rintro e w2 ⟨m', rfl, h1, h2, h3, h4⟩
  have hr2 := (h3.block (w.heap.size + 1) (lt_of_heap HR.out) HNP.out).trans HR.out
  have hmo2 := HMO.out.trans h3
  have HH : Hid (m'.c.cells.size = 20) := Lib.hid rfl
  have HL : Hid ((Tryz.prog.info? 39).map (·.size) = some m'.c.cells.toList.length) := Lib.hid rfl
  have HS : Hid ((Tryz.prog.info? 39).map (·.size) = some m'.c.cells.size) := Lib.hid rfl
  have H1 : Hid (m'.c.cells.all (·.oneCell') = true) := Lib.hid (Ca.one _ h2.1.1 h2.1.2)
  have HRG := Lib.hid h1.range
  have hwr := heap_setCells m'.c.cells.toList 0 _ w2 hr2
  have hput : putA ({ op := 0 } : Ca).cells 0 m'.c.cells.toList = m'.c.cells := putA_whole rfl
  rw [hput] at hwr
  have HT : Hid (w2.there (w.heap.size + 1) 0 m'.c.cells.size) := Lib.hid (show w2.there (w.heap.size + 1) 0 (({ op := 0 } : Ca).cells.size) from there_of hr2)
  obtain ⟨w4, hw4⟩ : ∃ w4, w2.setCells (w.heap.size + 1) 0 m'.c.cells.toList = w4 := ⟨_, rfl⟩
  have hM4 : M w4 p m' := by rw [← hw4]; exact (heap_setCells_other (fun e => HNP.out e.symm) _ _ _).trans h1
  have hkb : Kb w2 w4 := by rw [← hw4]; exact Kb.setCells hr2 _ _
  have hmo4 : Mo p w w4 := by
    rw [← hw4]
    exact ⟨(setCells_os _ _ _).1.trans hmo2.os, (setCells_os _ _ _).2.1.trans hmo2.tape, (setCells_os _ _ _).2.2.trans hmo2.output, by rw [setCells_size]; exact hmo2.size, fun k hk hb => (heap_setCells_other (by omega) _ _ _).trans (hmo2.block k hk hb)⟩
  rw [hw4] at hwr
  have HW4 := Lib.hid hwr
  have HM4 := Lib.hid hM4
  have HMO4 := Lib.hid hmo4
  have HRR := Lib.hid (hR m' w2 w4 hkb h4)
  have HTD := Lib.hid h2
  obtain ⟨_, h2⟩ := h2
  clear h3 h4 hr2 hmo2 hput hwr hM4 hkb hmo4 HN HB HR HMO HNP hwA hR h1 h2 xl
  obtain ⟨CC, hCC⟩ : ∃ CC, m'.c.cells = CC := ⟨_, rfl⟩
  rw [hCC] at HH HL HS H1 HRG HT hw4 HW4 ⊢
  have HCC := Lib.hid hCC
  have HTL : Hid (w2.there (w.heap.size + 1) 0 CC.size) := HT
  clear hCC
  go_wp2_with (refine wpList_store_mid rfl 39 _ _ rfl (w.heap.size + 1) 0 CC rfl rfl HT.out HS.out H1.out ?_; rw [hw4]; clear hw4)
  exact bodyPost_ret (v := .agg CC) (results_cell_row rfl _ w4 (w.heap.size + 1) 39 CC (0, 0) _ rfl HW4.out Tryz.underlying39 rfl HS.out) rfl ⟨m', by rw [HCC.out], HM4.out, HTD.out, HMO4.out, HRR.out⟩
end Go.Proofs.YtlhlehdajkoogaaGreatDoor
