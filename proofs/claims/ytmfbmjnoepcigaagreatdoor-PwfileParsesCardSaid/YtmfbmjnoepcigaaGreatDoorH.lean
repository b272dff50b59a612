/- at, Find, Of, Right. -/
import Derived.Test.YtmfbmjnoepcigaaGreatDoorG
import Derived.Test.YtmfbmjnoepcigaaGreatDoorList
namespace Go.Proofs.YtmfbmjnoepcigaaGreatDoor
open Go.RowKit

def isName (x : ByteArray) (f : UserS) : Bool := decide (f.name = x)
def isId (x : Int) (f : UserS) : Bool := decide (f.id = x)
set_option maxHeartbeats 1000000 in
theorem at_any (v : Value) (fs : List UserS) (x : ByteArray) (w : World) (hF : InU w v fs) (hn : fs.length ≤ 140737488355328) :
    Calls Tryz.prog 23 #[v, .string x] w fun e w' => e = .returned (.int .i64 (findU (isName x) fs 0)) ∧ Below w.heap.size w w' := by
  have hmf : ∀ (fn : Fn) (first cap : Array Value) (w : World), (Instr.makeFunc fn first cap).run Tryz.prog w = .ok (.func fn first cap) w := fun _ _ _ _ => rfl
  have hb0 : Below w.heap.size w (w.alloc (.cells #[.string x] 9)) := (Below.refl _ _).alloc (Nat.le_refl _) _
  have HI := Lib.hid (indexat_any v fs w.heap.size x (w.alloc (.cells #[.string x] 9)) (hF.below hb0) hn (by rw [heap_cell (at_new w _) 0]; rfl))
  have HB0 := Lib.hid hb0
  clear hF hn hb0
  go_enter Tryz.func23, Tryz.ntmps23
  go_wp2_with fail
  refine HI.out.mono ?_
  rintro e w1 ⟨rfl, hb⟩
  have HB := Lib.hid (HB0.out.trans (hb.mono HB0.out.size))
  clear hb
  go_wp2
  go_ret
  exact ⟨rfl, HB.out⟩
/-- Nobody. -/
def zeroU : UserS := ⟨⟨#[]⟩, ⟨#[]⟩, 0, 0, ⟨#[]⟩, ⟨#[]⟩⟩
/-- What is found: a user, or none. -/
def FoundP (p : UserS → Bool) (fs : List UserS) (w : World) (e : Ending) (w' : World) : Prop :=
  Below w.heap.size w w' ∧ ((∃ k : Nat, ∃ h : k < fs.length, p fs[k] = true ∧ (∀ j (hj : j < k), p (fs[j]'(by omega)) = false) ∧ e = .returned (.tuple #[.agg (userC fs[k]), .bool true])) ∨
    ((∀ f ∈ fs, p f = false) ∧ e = .returned (.tuple #[.agg (userC zeroU), .bool false])))
theorem leave11 {T : Array Value} {W : World} (n0 : Nat) {f : UserS} {b : Bool} (hT4 : T[4]? = some (.pointer (some ⟨n0, 0, none⟩))) (hT5 : T[5]? = some (.bool b))
    (hres : W.heap[n0]? = some (.cells (userC f) 29 (0, 0))) {R : Ending → World → Prop} (hR : R (.returned (.tuple #[.agg (userC f), .bool b])) W) :
    bodyPost Tryz.prog Tryz.f14 R Exit.ret { tmps := T, defers := [] } W := by
  have c0 : W.cell? ⟨n0, 0, none⟩ = some (.string f.name) := heap_cell hres 0
  have c1 : W.cell? ⟨n0, 1, none⟩ = some (.string f.pass) := heap_cell hres 1
  have c2 : W.cell? ⟨n0, 2, none⟩ = some (.int .i64 f.id) := heap_cell hres 2
  have c3 : W.cell? ⟨n0, 3, none⟩ = some (.int .i64 f.group) := heap_cell hres 3
  have c4 : W.cell? ⟨n0, 4, none⟩ = some (.string f.home) := heap_cell hres 4
  have c5 : W.cell? ⟨n0, 5, none⟩ = some (.string f.shell) := heap_cell hres 5
  exact bodyPost_ret (v := .tuple #[.agg (userC f), .bool b]) (by simp [results, Tryz.results11, go_sem, hT4, hT5, c0, c1, c2, c3, c4, c5, userC]) rfl hR
theorem leave12 {T : Array Value} {W : World} (n0 : Nat) {f : UserS} {b : Bool} (hT4 : T[4]? = some (.pointer (some ⟨n0, 0, none⟩))) (hT5 : T[5]? = some (.bool b))
    (hres : W.heap[n0]? = some (.cells (userC f) 29 (0, 0))) {R : Ending → World → Prop} (hR : R (.returned (.tuple #[.agg (userC f), .bool b])) W) :
    bodyPost Tryz.prog Tryz.f16 R Exit.ret { tmps := T, defers := [] } W := by
  have c0 : W.cell? ⟨n0, 0, none⟩ = some (.string f.name) := heap_cell hres 0
  have c1 : W.cell? ⟨n0, 1, none⟩ = some (.string f.pass) := heap_cell hres 1
  have c2 : W.cell? ⟨n0, 2, none⟩ = some (.int .i64 f.id) := heap_cell hres 2
  have c3 : W.cell? ⟨n0, 3, none⟩ = some (.int .i64 f.group) := heap_cell hres 3
  have c4 : W.cell? ⟨n0, 4, none⟩ = some (.string f.home) := heap_cell hres 4
  have c5 : W.cell? ⟨n0, 5, none⟩ = some (.string f.shell) := heap_cell hres 5
  exact bodyPost_ret (v := .tuple #[.agg (userC f), .bool b]) (by simp [results, Tryz.results12, go_sem, hT4, hT5, c0, c1, c2, c3, c4, c5, userC]) rfl hR
/-- A block that stood stands. -/
theorem below_heap {w W : World} (h : Below w.heap.size w W) {g : Nat} {o : Obj} (hg : w.heap[g]? = some o) : W.heap[g]? = some o := by
  have hlt : g < w.heap.size := (Array.getElem?_eq_some_iff.1 hg).1
  rw [h.block _ hlt]; exact hg
/-- Six stores, one behind the other. -/
def sixW (W : World) (n : Nat) (a b c d e f : Value) : World := (((((W.setCell ⟨n, 0, none⟩ a).setCell ⟨n, 1, none⟩ b).setCell ⟨n, 2, none⟩ c).setCell ⟨n, 3, none⟩ d).setCell ⟨n, 4, none⟩ e).setCell ⟨n, 5, none⟩ f
theorem sixW_at {W : World} {n : Nat} {g : UserS} (h : W.heap[n]? = some (.cells (userC g) 29 (0, 0))) (f : UserS) :
    (sixW W n (.string f.name) (.string f.pass) (.int .i64 f.id) (.int .i64 f.group) (.string f.home) (.string f.shell)).heap[n]? = some (.cells (userC f) 29 (0, 0)) := by
  unfold sixW
  rw [heap_setCell_same _ _ _ _ _ _ (heap_setCell_same _ _ _ _ _ _ (heap_setCell_same _ _ _ _ _ _ (heap_setCell_same _ _ _ _ _ _ (heap_setCell_same _ _ _ _ _ _ (heap_setCell_same _ _ _ _ _ _ h)))))]
  rfl
theorem sixW_below {B : Nat} {w W : World} (h : Below B w W) {n : Nat} (hn : B ≤ n) (a b c d e f : Value) : Below B w (sixW W n a b c d e f) := by
  unfold sixW
  exact (((((h.setCell hn _).setCell hn _).setCell hn _).setCell hn _).setCell hn _).setCell hn _
/-- A block's cells and that none is shared, as a store asks for them. -/
theorem six_facts {W : World} {n : Nat} {g : UserS} (h : W.heap[n]? = some (.cells (userC g) 29 (0, 0))) :
    (W.cell? ⟨n, 0, none⟩ = some (.string g.name) ∧ W.cell? ⟨n, 1, none⟩ = some (.string g.pass) ∧ W.cell? ⟨n, 2, none⟩ = some (.int .i64 g.id) ∧ W.cell? ⟨n, 3, none⟩ = some (.int .i64 g.group) ∧ W.cell? ⟨n, 4, none⟩ = some (.string g.home) ∧ W.cell? ⟨n, 5, none⟩ = some (.string g.shell)) ∧
    (W.frozen? ⟨n, 0, none⟩ = false ∧ W.frozen? ⟨n, 1, none⟩ = false ∧ W.frozen? ⟨n, 2, none⟩ = false ∧ W.frozen? ⟨n, 3, none⟩ = false ∧ W.frozen? ⟨n, 4, none⟩ = false ∧ W.frozen? ⟨n, 5, none⟩ = false) :=
  ⟨⟨heap_cell h 0, heap_cell h 1, heap_cell h 2, heap_cell h 3, heap_cell h 4, heap_cell h 5⟩, ⟨frozen_of_row _ _ _ _ _ h, frozen_of_row _ _ _ _ _ h, frozen_of_row _ _ _ _ _ h, frozen_of_row _ _ _ _ _ h, frozen_of_row _ _ _ _ _ h, frozen_of_row _ _ _ _ _ h⟩⟩
set_option maxHeartbeats 2000000 in
set_option maxRecDepth 100000 in
theorem find_any (v : Value) (fs : List UserS) (x : ByteArray) (w : World) (hF : InU w v fs) (hn : fs.length ≤ 140737488355328) :
    Calls Tryz.prog 14 #[v, .string x] w (FoundP (isName x) fs w) := by
  obtain ⟨a, cap, rfl, hc⟩ := hF
  have HF : Hid (InU w (.slice a fs.length cap) fs) := Lib.hid ⟨a, cap, rfl, hc⟩
  clear hc
  have HA := Lib.hid (fun (W : World) (h : Below w.heap.size w W) => at_any _ fs x W (HF.out.below h) hn)
  have hn1 : (fs.length : Int) ≤ 140737488355328 := by omega
  have HN := Lib.hid hn
  clear hn
  go_enter Tryz.func14, Tryz.ntmps14
  go_wp2_with fail
  refine (HA.out _ ((Below.refl _ _).alloc (Nat.le_refl _) _)).mono ?_
  rintro e w1 ⟨rfl, hb⟩
  have hcell := below_heap hb (at_new w (.cells (userC zeroU) 29))
  have HH := Lib.hid hcell
  have HB := Lib.hid (((Below.refl w.heap.size w).alloc (Nat.le_refl _) (.cells (userC zeroU) 29)).trans (hb.mono (by simp)))
  clear hb hcell
  rcases findU_cases (isName x) fs with ⟨h1, h2⟩ | ⟨k, hk, h1, h2, h3⟩
  · rw [h1]
    have H2 := Lib.hid h2
    clear h1 h2
    obtain ⟨⟨e0, e1, e2, e3, e4, e5⟩, ⟨z0, z1, z2, z3, z4, z5⟩⟩ := six_facts HH.out
    go_wp2
    exact leave11 w.heap.size rfl rfl (sixW_at HH.out zeroU) ⟨sixW_below HB.out (Nat.le_refl _) _ _ _ _ _ _, .inr ⟨H2.out, rfl⟩⟩
  · rw [h3]
    clear h3
    have hk1 : (k : Int) < fs.length := by omega
    have hk0 : (0 : Int) ≤ k := by omega
    obtain ⟨b, off, rfl, hu⟩ := HF.out.uc HB.out hk
    have HKK := Lib.hid (show ∃ h : k < fs.length, isName x fs[k] = true ∧ ∀ j (hj : j < k), isName x (fs[j]'(by omega)) = false from ⟨hk, h1, h2⟩)
    obtain ⟨f, hf⟩ : ∃ f, fs[k] = f := ⟨_, rfl⟩
    have HFK := Lib.hid hf
    rw [hf] at hu
    obtain ⟨g0, g1, g2, g3, g4, g5⟩ := hu
    clear h1 h2 hf
    obtain ⟨⟨e0, e1, e2, e3, e4, e5⟩, ⟨z0, z1, z2, z3, z4, z5⟩⟩ := six_facts HH.out
    go_wp2
    refine leave11 w.heap.size rfl rfl (sixW_at HH.out f) ⟨sixW_below HB.out (Nat.le_refl _) _ _ _ _ _ _, .inl ?_⟩
    obtain ⟨h, h1, h2⟩ := HKK.out
    exact ⟨k, h, h1, h2, by rw [HFK.out]⟩
set_option maxHeartbeats 2000000 in
set_option maxRecDepth 100000 in
theorem of_any (v : Value) (fs : List UserS) (x : Int) (w : World) (hF : InU w v fs) (hn : fs.length ≤ 140737488355328) :
    Calls Tryz.prog 16 #[v, .int .i64 x] w (FoundP (isId x) fs w) := by
  obtain ⟨a, cap, rfl, hc⟩ := hF
  have HF : Hid (InU w (.slice a fs.length cap) fs) := Lib.hid ⟨a, cap, rfl, hc⟩
  clear hc
  have hmf : ∀ (fn : Fn) (first cap : Array Value) (w : World), (Instr.makeFunc fn first cap).run Tryz.prog w = .ok (.func fn first cap) w := fun _ _ _ _ => rfl
  have hb0 : Below w.heap.size w ((w.alloc (.cells #[.int .i64 x] 3)).alloc (.cells (userC zeroU) 29)) := ((Below.refl _ _).alloc (Nat.le_refl _) _).alloc (by simp) _
  have hcx : ((w.alloc (.cells #[.int .i64 x] 3)).alloc (.cells (userC zeroU) 29)).cell? ⟨w.heap.size, 0, none⟩ = some (.int .i64 x) := heap_cell (heap_alloc2_old w (.cells #[.int .i64 x] 3) (.cells (userC zeroU) 29)) 0
  have HI := Lib.hid (indexof_any _ fs w.heap.size x _ (HF.out.below hb0) hn hcx)
  have HB0 := Lib.hid hb0
  have HA0 := Lib.hid (heap_alloc2_new w (.cells #[.int .i64 x] 3) (.cells (userC zeroU) 29))
  clear hb0 hcx
  have hn1 : (fs.length : Int) ≤ 140737488355328 := by omega
  have HN := Lib.hid hn
  clear hn
  go_enter Tryz.func16, Tryz.ntmps16
  go_wp2_with fail
  refine HI.out.mono ?_
  rintro e w1 ⟨rfl, hb⟩
  have hcell := below_heap hb HA0.out
  have HH := Lib.hid hcell
  have HB := Lib.hid (HB0.out.trans (hb.mono HB0.out.size))
  clear hb hcell HI HA0 hmf
  rw [show findU (fun f => decide (f.id = x)) fs 0 = findU (isId x) fs 0 from rfl]
  rcases findU_cases (isId x) fs with ⟨h1, h2⟩ | ⟨k, hk, h1, h2, h3⟩
  · rw [h1]
    have H2 := Lib.hid h2
    clear h1 h2
    obtain ⟨⟨e0, e1, e2, e3, e4, e5⟩, ⟨z0, z1, z2, z3, z4, z5⟩⟩ := six_facts HH.out
    go_wp2
    exact leave12 (w.heap.size + 1) rfl rfl (sixW_at HH.out zeroU) ⟨sixW_below HB.out (Nat.le_succ _) _ _ _ _ _ _, .inr ⟨H2.out, rfl⟩⟩
  · rw [h3]
    clear h3
    have hk1 : (k : Int) < fs.length := by omega
    have hk0 : (0 : Int) ≤ k := by omega
    obtain ⟨b, off, rfl, hu⟩ := HF.out.uc HB.out hk
    have HKK := Lib.hid (show ∃ h : k < fs.length, isId x fs[k] = true ∧ ∀ j (hj : j < k), isId x (fs[j]'(by omega)) = false from ⟨hk, h1, h2⟩)
    obtain ⟨f, hf⟩ : ∃ f, fs[k] = f := ⟨_, rfl⟩
    have HFK := Lib.hid hf
    rw [hf] at hu
    obtain ⟨g0, g1, g2, g3, g4, g5⟩ := hu
    clear h1 h2 hf
    obtain ⟨⟨e0, e1, e2, e3, e4, e5⟩, ⟨z0, z1, z2, z3, z4, z5⟩⟩ := six_facts HH.out
    go_wp2
    refine leave12 (w.heap.size + 1) rfl rfl (sixW_at HH.out f) ⟨sixW_below HB.out (Nat.le_succ _) _ _ _ _ _ _, .inl ?_⟩
    obtain ⟨h, h1, h2⟩ := HKK.out
    exact ⟨k, h, h1, h2, by rw [HFK.out]⟩
end Go.Proofs.YtmfbmjnoepcigaaGreatDoor
