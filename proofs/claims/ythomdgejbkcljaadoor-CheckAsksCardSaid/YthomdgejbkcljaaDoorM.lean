/- Arguments of any number; what is shown in any case. -/
import Derived.Test.YthomdgejbkcljaaDoorL
namespace Go.Proofs.YthomdgejbkcljaaDoor
open Go.RowKit

/-- What any arguments tell. -/
def tellS : List ByteArray → List FactS → Told
  | [], _ => .inl 1
  | [a], _ => t1 a
  | [a, b], fs => t2 a b fs
  | [a, b, c], fs => t3 a b c fs
  | [a, b, c, d], fs => t4 a b c d fs
  | _, _ => .inl 2
theorem tellS_le {L : List ByteArray} {fs : List FactS} {n : Nat} (h : tellS L fs = .inl n) : n ≤ 2 := by
  match L, h with
  | [], h => rw [← Sum.inl.inj h]; decide
  | [a], h => exact t1_le h
  | [a, b], h => exact t2_le h
  | [a, b, c], h => exact t3_le h
  | [a, b, c, d], h =>
    have h' : t4 a b c d fs = .inl n := h
    unfold t4 at h'
    split at h'
    · exact notS_le h'
    · split at h'
      · exact t2_le h'
      · rw [← Sum.inl.inj h']; exact Nat.le_refl _
  | _ :: _ :: _ :: _ :: _ :: _, h => rw [← Sum.inl.inj h]; exact Nat.le_refl _
/-- Arguments, as they came in. -/
def ArgS (w : World) (v : Value) (L : List ByteArray) : Prop :=
  ∃ a cap, v = .slice a L.length cap ∧ L.length ≤ cap ∧ ∀ j (h : j < L.length), ∃ b off, a = some ⟨b, off, none⟩ ∧ w.cell? ⟨b, off + j, none⟩ = some (.string L[j])
theorem ArgS.below {w w' : World} {v : Value} {L : List ByteArray} (h : ArgS w v L) (hb : Below w.heap.size w w') : ArgS w' v L := by
  obtain ⟨a, cap, rfl, hc, h⟩ := h
  refine ⟨a, cap, rfl, hc, fun j hj => ?_⟩
  obtain ⟨b, off, ha, h1⟩ := h j hj
  exact ⟨b, off, ha, by rw [hb.cell (p := ⟨b, off + j, none⟩) (World.block_lt_of_cell? w _ h1)]; exact h1⟩
theorem ArgS.sl {w : World} {v : Value} {L : List ByteArray} (h : ArgS w v L) (h0 : 0 < L.length) : ∃ b off cap, v = .slice (some ⟨b, off, none⟩) L.length cap ∧ SL w b off L.length cap L := by
  obtain ⟨a, cap, rfl, hc, h⟩ := h
  obtain ⟨b, off, rfl, _⟩ := h 0 h0
  refine ⟨b, off, cap, rfl, rfl, hc, fun j hj => ?_⟩
  obtain ⟨b', off', ha, h1⟩ := h j hj
  obtain ⟨rfl, rfl⟩ : b = b' ∧ off = off' := by simpa using ha
  exact h1
theorem tells_any (v u : Value) (L : List ByteArray) (fs : List FactS) (w : World) (hL : ArgS w v L) (hz : ∀ s ∈ L, s.size ≤ 140737488355328) (hF : InF w u fs) (hn : fs.length ≤ 140737488355328) :
    Calls Tryd.prog 15 #[v, u] w (TP (tellS L fs) w) := by
  match L, hL, hz with
  | [], hL, _ => obtain ⟨a, cap, rfl, _⟩ := hL; exact tells_0 a cap u w
  | [s0], hL, _ => obtain ⟨b, off, cap, rfl, h⟩ := hL.sl (by simp); exact tells_1 b off cap s0 u fs w h
  | [s0, s1], hL, _ => obtain ⟨b, off, cap, rfl, h⟩ := hL.sl (by simp); exact tells_2 b off cap s0 s1 u fs w hF hn h
  | [s0, s1, s2], hL, hz => obtain ⟨b, off, cap, rfl, h⟩ := hL.sl (by simp); exact tells_3 b off cap s0 s1 s2 u fs w hF hn h ⟨hz _ (by simp), hz _ (by simp)⟩
  | [s0, s1, s2, s3], hL, hz => obtain ⟨b, off, cap, rfl, h⟩ := hL.sl (by simp); exact tells_4 b off cap s0 s1 s2 s3 u fs w hF hn h ⟨hz _ (by simp), hz _ (by simp)⟩
  | _ :: _ :: _ :: _ :: _ :: l, hL, _ => obtain ⟨a, cap, rfl, _⟩ := hL; exact tells_many a _ cap u w (by simp)
theorem rcheck_any (v u : Value) (L : List ByteArray) (fs : List FactS) (w : World) (hL : ArgS w v L) (hz : ∀ s ∈ L, s.size ≤ 140737488355328) (hF : InF w u fs) (hn : fs.length ≤ 140737488355328) :
    Calls Tryd.prog 10 #[v, u] w (RT (told (tellS L fs)) w) := by
  match L, hL, hz with
  | [], hL, _ => obtain ⟨a, cap, rfl, _⟩ := hL; exact rcheck_0 a cap u w
  | [s0], hL, _ => obtain ⟨b, off, cap, rfl, h⟩ := hL.sl (by simp); exact rcheck_1 b off cap s0 u w h
  | [s0, s1], hL, _ => obtain ⟨b, off, cap, rfl, h⟩ := hL.sl (by simp); exact rcheck_2 b off cap s0 s1 u fs w hF hn h
  | [s0, s1, s2], hL, hz => obtain ⟨b, off, cap, rfl, h⟩ := hL.sl (by simp); exact rcheck_3 b off cap s0 s1 s2 u fs w hF hn h ⟨hz _ (by simp), hz _ (by simp)⟩
  | [s0, s1, s2, s3], hL, hz => obtain ⟨b, off, cap, rfl, h⟩ := hL.sl (by simp); exact rcheck_4 b off cap s0 s1 s2 s3 u fs w hF hn h ⟨hz _ (by simp), hz _ (by simp)⟩
  | _ :: _ :: _ :: _ :: _ :: l, hL, _ => obtain ⟨a, cap, rfl, _⟩ := hL; exact rcheck_many a _ cap u w (by simp)
theorem check_any (v u : Value) (L : List ByteArray) (fs : List FactS) (w : World) (hL : ArgS w v L) (hz : ∀ s ∈ L, s.size ≤ 140737488355328) (hF : InF w u fs) (hn : fs.length ≤ 140737488355328) :
    Calls Tryd.prog 9 #[v, u] w (CP (tellS L fs) w) :=
  check_of v u _ w (fun W hW => tells_any v u L fs W (hL.below hW) hz (hF.below hW) hn)
theorem inF_nil (w : World) : InF w (.slice none 0 0) [] := ⟨none, 0, rfl, fun j hj => absurd hj (Nat.not_lt_zero j)⟩
theorem argS_nil (w : World) : ArgS w (.slice none 0 0) [] := ⟨none, 0, rfl, Nat.le_refl _, fun j hj => absurd hj (Nat.not_lt_zero j)⟩
/-- A literal's arguments. -/
theorem argS_new (w : World) (L : List ByteArray) : ArgS (w.alloc (.cells (L.map Value.string).toArray 9)) (.slice (some ⟨w.heap.size, 0, none⟩) L.length L.length) L :=
  ⟨_, _, rfl, Nat.le_refl _, fun j hj => ⟨_, _, rfl, by
    rw [Nat.zero_add, heap_cell (at_new w _) j]
    simp [hj]⟩⟩
/-- The number that is told without facts; 0 where a path is asked for. -/
def numOf : Told → Nat
  | .inl n => n
  | .inr _ => 0
theorem ckEnd_cases (t : Told) : ∃ (p : ByteArray) (b : Bool), ckEnd t = .returned (.tuple #[.int .i64 (numOf t : Nat), .string p, .bool b]) := by
  cases t with
  | inl n => exact ⟨_, _, rfl⟩
  | inr x => exact ⟨_, _, rfl⟩
theorem ltells_any (v : Value) (L : List ByteArray) (w : World) (hL : ArgS w v L) (hz : ∀ s ∈ L, s.size ≤ 140737488355328) : Calls Tryd.prog 12 #[v] w fun e w' => e = .returned (.int .i64 (numOf (tellS L []) : Nat)) ∧ Below w.heap.size w w' := by
  have HC := Lib.hid (check_any v (.slice none 0 0) L [] w hL hz (inF_nil w) (by simp))
  obtain ⟨p, b, hp⟩ := ckEnd_cases (tellS L [])
  have HP := Lib.hid hp
  clear hL hz hp
  generalize numOf (tellS L []) = n at *
  go_enter Tryd.func12, Tryd.ntmps12
  go_wp2_with fail
  refine HC.out.mono ?_
  rintro e w1 ⟨he, hb⟩
  rw [HP.out] at he
  subst he
  have HB := Lib.hid hb
  clear hb
  go_wp2
  go_ret
  exact ⟨rfl, HB.out⟩
theorem lt_lit {L : List ByteArray} {n : Nat} (hn : numOf (tellS L []) = n) (hz : ∀ s ∈ L, s.size ≤ 140737488355328) {v : Value} {W : World} (hL : ArgS W v L) : Calls Tryd.prog 12 #[v] W fun e w' => e = .returned (.int .i64 n) ∧ Below W.heap.size W w' := by
  rw [← hn]; exact ltells_any v L W hL hz
set_option maxHeartbeats 1000000 in
set_option maxRecDepth 100000 in
theorem shown_any (w : World) : Calls Tryd.prog 8 #[] w fun e w' => e = .returned (.bool true) ∧ Below w.heap.size w w' := by
  go_enter Tryd.func8, Tryd.ntmps8
  go_wp2_with fail
  refine (check_any _ _ [⟨#[45, 102]⟩, ⟨#[47, 120]⟩] [] _ (argS_new w _) (by decide) (inF_nil _) (by simp)).mono ?_
  rintro e w1 ⟨he, hb⟩
  rw [show tellS [⟨#[45, 102]⟩, ⟨#[47, 120]⟩] [] = .inr ⟨#[47, 120]⟩ by decide +kernel] at he
  replace he : e = .returned (.tuple #[.int .i64 0, .string ⟨#[47, 120]⟩, .bool true]) := he
  subst he
  have HB := Lib.hid (((Below.refl w.heap.size w).alloc (Nat.le_refl _) (Obj.cells #[.string ⟨#[45, 102]⟩, .string ⟨#[47, 120]⟩] 9)).trans (hb.mono (by simp)))
  clear hb
  go_wp2_with fail
  refine (lt_lit (L := [⟨#[53]⟩, ⟨#[45, 103, 116]⟩, ⟨#[51]⟩]) (n := 0) (by decide +kernel) (by decide) (argS_new _ _)).mono ?_
  rintro e wn ⟨rfl, hb⟩
  replace HB := Lib.hid ((HB.out.alloc HB.out.size (Obj.cells #[.string ⟨#[53]⟩, .string ⟨#[45, 103, 116]⟩, .string ⟨#[51]⟩] 9)).trans (hb.mono (Nat.le_trans HB.out.size (by simp))))
  clear hb
  go_wp2_with fail
  refine (lt_lit (L := [⟨#[33]⟩, ⟨#[97]⟩, ⟨#[61]⟩, ⟨#[98]⟩]) (n := 0) (by decide +kernel) (by decide) (argS_new _ _)).mono ?_
  rintro e wn ⟨rfl, hb⟩
  replace HB := Lib.hid ((HB.out.alloc HB.out.size (Obj.cells #[.string ⟨#[33]⟩, .string ⟨#[97]⟩, .string ⟨#[61]⟩, .string ⟨#[98]⟩] 9)).trans (hb.mono (Nat.le_trans HB.out.size (by simp))))
  clear hb
  go_wp2_with fail
  refine (lt_lit (L := [⟨#[97]⟩, ⟨#[45, 101, 113]⟩, ⟨#[49]⟩]) (n := 2) (by decide +kernel) (by decide) (argS_new _ _)).mono ?_
  rintro e wn ⟨rfl, hb⟩
  replace HB := Lib.hid ((HB.out.alloc HB.out.size (Obj.cells #[.string ⟨#[97]⟩, .string ⟨#[45, 101, 113]⟩, .string ⟨#[49]⟩] 9)).trans (hb.mono (Nat.le_trans HB.out.size (by simp))))
  clear hb
  go_wp2_with fail
  refine (lt_lit (L := [⟨#[33]⟩]) (n := 0) (by decide +kernel) (by decide) (argS_new _ _)).mono ?_
  rintro e wn ⟨rfl, hb⟩
  replace HB := Lib.hid ((HB.out.alloc HB.out.size (Obj.cells #[.string ⟨#[33]⟩] 9)).trans (hb.mono (Nat.le_trans HB.out.size (by simp))))
  clear hb
  go_wp2_with fail
  refine (lt_lit (L := [⟨#[33]⟩, ⟨#[61]⟩, ⟨#[33]⟩]) (n := 0) (by decide +kernel) (by decide) (argS_new _ _)).mono ?_
  rintro e wn ⟨rfl, hb⟩
  replace HB := Lib.hid ((HB.out.alloc HB.out.size (Obj.cells #[.string ⟨#[33]⟩, .string ⟨#[61]⟩, .string ⟨#[33]⟩] 9)).trans (hb.mono (Nat.le_trans HB.out.size (by simp))))
  clear hb
  go_wp2_with fail
  refine (lt_lit (L := []) (n := 1) (by decide +kernel) (by decide) (argS_nil _)).mono ?_
  rintro e wn ⟨rfl, hb⟩
  replace HB := Lib.hid (HB.out.trans (hb.mono HB.out.size))
  clear hb
  go_wp2
  go_ret
  exact ⟨rfl, HB.out⟩
end Go.Proofs.YthomdgejbkcljaaDoor
