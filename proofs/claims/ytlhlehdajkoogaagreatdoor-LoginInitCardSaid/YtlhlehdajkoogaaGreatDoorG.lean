/- A machine is made: Push, steps.New, programs, New. -/
import Derived.Test.YtlhlehdajkoogaaGreatDoorF
import Derived.Test.YtlhlehdajkoogaaGreatDoorB
namespace Go.Proofs.YtlhlehdajkoogaaGreatDoor
open Go.RowKit

theorem below_grown {w0 w w' : World} {B : Nat} {row : Option Nat} (h : Below B w0 w) (hB : B ≤ w0.heap.size) (hg : w.grownBy w' row) (hrow : ∀ k, row = some k → B ≤ k) : Below B w0 w' :=
  ⟨hg.os.trans h.os, hg.tape.trans h.tape, hg.output.trans h.output, Nat.le_trans h.size hg.size, fun j hj => (hg.block j (Nat.lt_of_lt_of_le hj (Nat.le_trans hB h.size)) (fun e => by have := hrow j e.symm; omega)).trans (h.block j hj)⟩
theorem info_step : (Tryz.prog.info? 96).map (fun i => (i.zero, i.size, i.bytes)) = some (some (.agg #[.nilFunc, .bool false]), 2, 16) := by kernel_rfl
/-- One step alone is to be done. -/
def One (w : World) (m : Ma) (f : Value) : Prop := ∃ td cap cur, m.todo = .slice (some ⟨td, 0, none⟩) 1 cap ∧ w.heap[td]? = some (.cells cur 96 (0, 0)) ∧ cur[0]? = some f ∧ cur[1]? = some (.bool false)
theorem One.kb {w w' : World} {m : Ma} {f : Value} (h : One w m f) (k : Kb w w') : One w' m f := by
  obtain ⟨td, cap, cur, h1, h2, h3⟩ := h
  exact ⟨td, cap, cur, h1, k _ _ _ (by decide) (by decide) h2, h3⟩
theorem two_new (W : World) (f : Value) (T : TypeId) : ∀ (j : Nat) (u : Value), [f, .bool false][j]? = some u → (W.alloc (.cells #[f, .bool false] T)).cell? ((⟨W.heap.size, 0, none⟩ : Addr).add j) = some u := fun j u h => by
  have hadd : (⟨W.heap.size, 0, none⟩ : Addr).add j = ⟨W.heap.size, j, none⟩ := by unfold Addr.add; split <;> simp_all
  rw [hadd, cell_of (alloc_heap W _)]
  simpa using h
theorem own_two {w : World} {B : Nat} {v f : Value} {T : TypeId} (h : w.ownsRow B T 2 v 1 [f, .bool false]) : ∃ td cap cur, v = .slice (some ⟨td, 0, none⟩) 1 cap ∧ w.heap[td]? = some (.cells cur T (0, 0)) ∧ cur[0]? = some f ∧ cur[1]? = some (.bool false) := by
  rcases h.2 with ⟨_, h0⟩ | ⟨b, cap, cur, rfl, _, h1, _, _, _, h5⟩
  · cases h0
  · refine ⟨b, cap, cur, rfl, h1, ?_, ?_⟩
    · have : (cur.toList.take (1 * 2))[0]? = some f := by rw [h5]; rfl
      rw [List.getElem?_take, if_pos (by omega)] at this
      simpa using this
    · have : (cur.toList.take (1 * 2))[1]? = some (.bool false) := by rw [h5]; rfl
      rw [List.getElem?_take, if_pos (by omega)] at this
      simpa using this
set_option maxRecDepth 100000 in
set_option maxHeartbeats 4000000 in
theorem push_any {w : World} {p : Nat} {m : Ma} (h : M w p m) (htd : m.todo = .slice none 0 0) (fn : Fn) (fi ca : Array Value) :
    Calls Tryz.prog 49 #[.pointer (some ⟨p, 0, none⟩), .func fn fi ca] w fun e w' => e = .returned (.tuple #[]) ∧ ∃ v, M w' p { m with todo := v } ∧ One w' { m with todo := v } (.func fn fi ca) ∧ Mo p w w' := by
  obtain ⟨i0, hi, hz0, hz1, hz2⟩ := info_parts info_step
  have k5 : w.cell? ⟨p, 5, none⟩ = some (.slice none 0 0) := by rw [h.cell 5, ← htd]; rfl
  have HH := Lib.hid h
  clear h
  go_enter Tryz.func49, Tryz.ntmps49
  go_wp2_with (at_builtin; refine wpList_append_own _ rfl _ _ 90 rfl w.heap.size 96 i0 (.agg #[.nilFunc, .bool false]) 2 16 Tryz.underlying90 hi hz0 hz1 hz2 rfl (by decide) _ _ _ rfl (World.ownsRow_nil _ _ _ _) ⟨_, 0, none⟩ 1 1 [.func fn fi ca, .bool false] rfl rfl (two_new _ _ _) (by simp [Value.oneCell']) (by unfold maxLen; omega) (by omega) (by rw [alloc_size]; omega) ?_; intro v2 w2 hown2 hgrow2 hnil2; obtain ⟨td, cap, cur, rfl, q1, q2, q3⟩ := own_two hown2; have hb2 := below_grown ((Below.refl w.heap.size w).alloc (Nat.le_refl _) _) (Nat.le_refl _) hgrow2 (fun k hk => by cases hk); have hM2 := HH.out.below hb2; have k52 := hM2.cell 5; rw [show m.cells[5]? = some m.todo from rfl, htd] at k52; have f52 := frozen_of hM2 5; have HQ := Lib.hid q1; have HB := Lib.hid hb2; have HM := Lib.hid (hM2.set 5 (.slice (some ⟨td, 0, none⟩) 1 cap) { m with todo := .slice (some ⟨td, 0, none⟩) 1 cap } rfl); have HQ2 := Lib.hid q2; have HQ3 := Lib.hid q3; have HNE : Hid (td ≠ p) := Lib.hid (fun e => by subst e; unfold M at hM2; rw [q1] at hM2; injection hM2 with hM2; injection hM2 with _ hM2 _; exact absurd hM2 (by decide)); clear hown2 hgrow2 hnil2 hb2 hM2 q1 q2 q3)
  exact bodyPost_end (results_none rfl _ _ _) rfl ⟨rfl, _, HM.out, ⟨td, cap, cur, rfl, (Below.heap_setCell _ _ _ _ HNE.out).trans HQ.out, HQ2.out, HQ3.out⟩, ((Mo.refl p w).below HB.out).set _⟩
theorem Mo.bel {B p : Nat} {w0 w w' : World} (h : Below B w0 w) (k : Mo p w w') (hp : B ≤ p) (hB : B ≤ w0.heap.size) : Below B w0 w' :=
  h.trans ⟨k.os, k.tape, k.output, k.size, fun b hb => k.block b (by have := h.size; omega) (by omega)⟩
set_option maxRecDepth 100000 in
set_option maxHeartbeats 4000000 in
theorem snew_any {w : World} (prog : ByteArray) (fn : Fn) (fi ca : Array Value) :
    Calls Tryz.prog 26 #[.agg #[.string prog, .slice none 0 0, .bool false, .int .i64 0], .func fn fi ca] w fun e w' => ∃ p v, e = .returned (.pointer (some ⟨p, 0, none⟩)) ∧ M w' p { prog := prog, todo := v, th := .nilFunc, c := { op := 0 } } ∧ One w' { prog := prog, todo := v, th := .nilFunc, c := { op := 0 } } (.func fn fi ca) ∧ w.heap.size ≤ p ∧ Below w.heap.size w w' := by
  have hM : M ((w.alloc (.cells #[.string prog, .slice none 0 0, .bool false, .int .i64 0] 69)).alloc (.cells ({ prog := prog, todo := .slice none 0 0, th := .nilFunc, c := { op := 0 } } : Ma).cells MT)) (w.heap.size + 1) { prog := prog, todo := .slice none 0 0, th := .nilFunc, c := { op := 0 } } := by
    have := alloc_heap (w.alloc (.cells #[.string prog, .slice none 0 0, .bool false, .int .i64 0] 69)) (.cells ({ prog := prog, todo := .slice none 0 0, th := .nilFunc, c := { op := 0 } } : Ma).cells MT)
    rwa [alloc_size] at this
  have hb : Below w.heap.size w ((w.alloc (.cells #[.string prog, .slice none 0 0, .bool false, .int .i64 0] 69)).alloc (.cells ({ prog := prog, todo := .slice none 0 0, th := .nilFunc, c := { op := 0 } } : Ma).cells MT)) := belowA (belowA (Below.refl _ _) _) _
  have HM := Lib.hid hM
  have HB := Lib.hid hb
  clear hM hb
  go_enter Tryz.func26, Tryz.ntmps26
  go_wp2_with fail
  refine (push_any HM.out rfl fn fi ca).mono ?_
  rintro e w2 ⟨rfl, v, h1, h2, h3⟩
  have H1 := Lib.hid h1
  have H2 := Lib.hid h2
  have H3 := Lib.hid (Mo.bel HB.out h3 (by omega) (Nat.le_refl _))
  clear h1 h2 h3 HM HB
  go_wp2
  go_ret
  exact ⟨_, v, rfl, H1.out, H2.out, by omega, H3.out⟩
end Go.Proofs.YtlhlehdajkoogaaGreatDoor
