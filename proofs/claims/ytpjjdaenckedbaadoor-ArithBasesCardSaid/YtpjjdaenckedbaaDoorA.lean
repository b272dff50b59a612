/- Expressions: letter, truth, two. -/
import Derived.Test.YtpjjdaenckedbaaDoorProg
import Derived.Test.YtpjjdaenckedbaaDoorTyp
import Derived.WalkKit
import Derived.ProofKit
import Derived.Carry
import Derived.Deep.CutRange
import Derived.Below
import Derived.Lib.Hide
import Derived.WalkLawsBesides
import Derived.WalkSpells
import Derived.Outline
import Derived.Lib.Strings
namespace Go.Proofs.YtpjjdaenckedbaaDoor
open Go.RowKit

theorem B_list (s : Bytes) : (B s).toList = s := by rw [Lib.toList_data]; rfl
theorem B_cmp (s t : Bytes) : ((B s).toList == t) = decide (s = t) := by
  rw [B_list, Bool.eq_iff_iff]; simp
theorem w64_wrap (n : Int) : w64 n = wrap64 n := IntWalk.i64_left n
theorem truth_any (b : Bool) (w : World) : Calls Tryd.prog 27 #[.bool b] w fun e w' => e = .returned (.int .i64 (truthS b)) ∧ w' = w := by
  cases b
  · go_enter Tryd.func27, Tryd.ntmps27
    go_wp2
    go_ret
    exact ⟨rfl, rfl⟩
  · go_enter Tryd.func27, Tryd.ntmps27
    go_wp2
    go_ret
    exact ⟨rfl, rfl⟩
def twoE (x : Option Int) : Ending := match x with
  | some n => .returned (.int .i64 n)
  | none => .panicked [{ v := .iface 27 (.int .i64 22), recovered := false }]
theorem two_or (a b : Int) (w : World) : Calls Tryd.prog 25 #[.string (B [124]), .int .i64 a, .int .i64 b] w fun e w' => e = .returned (.int .i64 (or64 a b)) ∧ w' = w := by
  have hc := B_cmp [124]
  go_enter Tryd.func25, Tryd.ntmps25
  go_wp2
  go_ret
  exact ⟨rfl, rfl⟩
theorem two_xor (a b : Int) (w : World) : Calls Tryd.prog 25 #[.string (B [94]), .int .i64 a, .int .i64 b] w fun e w' => e = .returned (.int .i64 (xor64 a b)) ∧ w' = w := by
  have hc := B_cmp [94]
  go_enter Tryd.func25, Tryd.ntmps25
  go_wp2
  go_ret
  exact ⟨rfl, rfl⟩
theorem two_and (a b : Int) (w : World) : Calls Tryd.prog 25 #[.string (B [38]), .int .i64 a, .int .i64 b] w fun e w' => e = .returned (.int .i64 (and64 a b)) ∧ w' = w := by
  have hc := B_cmp [38]
  go_enter Tryd.func25, Tryd.ntmps25
  go_wp2
  go_ret
  exact ⟨rfl, rfl⟩
theorem two_eq (a b : Int) (w : World) : Calls Tryd.prog 25 #[.string (B [61,61]), .int .i64 a, .int .i64 b] w fun e w' => e = .returned (.int .i64 (truthS (decide (a = b)))) ∧ w' = w := by
  have hc := B_cmp [61,61]
  go_enter Tryd.func25, Tryd.ntmps25
  go_wp2_with fail
  refine (truth_any _ _).mono ?_
  rintro e w' ⟨rfl, rfl⟩
  go_wp2
  go_ret
  exact ⟨rfl, rfl⟩
theorem two_ne (a b : Int) (w : World) : Calls Tryd.prog 25 #[.string (B [33,61]), .int .i64 a, .int .i64 b] w fun e w' => e = .returned (.int .i64 (truthS (!decide (a = b)))) ∧ w' = w := by
  have hc := B_cmp [33,61]
  go_enter Tryd.func25, Tryd.ntmps25
  go_wp2_with fail
  refine (truth_any _ _).mono ?_
  rintro e w' ⟨rfl, rfl⟩
  go_wp2
  go_ret
  exact ⟨rfl, rfl⟩
theorem two_lt (a b : Int) (w : World) : Calls Tryd.prog 25 #[.string (B [60]), .int .i64 a, .int .i64 b] w fun e w' => e = .returned (.int .i64 (truthS (decide (a < b)))) ∧ w' = w := by
  have hc := B_cmp [60]
  go_enter Tryd.func25, Tryd.ntmps25
  go_wp2_with fail
  refine (truth_any _ _).mono ?_
  rintro e w' ⟨rfl, rfl⟩
  go_wp2
  go_ret
  exact ⟨rfl, rfl⟩
theorem two_le (a b : Int) (w : World) : Calls Tryd.prog 25 #[.string (B [60,61]), .int .i64 a, .int .i64 b] w fun e w' => e = .returned (.int .i64 (truthS (decide (a ≤ b)))) ∧ w' = w := by
  have hc := B_cmp [60,61]
  go_enter Tryd.func25, Tryd.ntmps25
  go_wp2_with fail
  refine (truth_any _ _).mono ?_
  rintro e w' ⟨rfl, rfl⟩
  go_wp2
  go_ret
  exact ⟨rfl, rfl⟩
theorem two_gt (a b : Int) (w : World) : Calls Tryd.prog 25 #[.string (B [62]), .int .i64 a, .int .i64 b] w fun e w' => e = .returned (.int .i64 (truthS (decide (b < a)))) ∧ w' = w := by
  have hc := B_cmp [62]
  go_enter Tryd.func25, Tryd.ntmps25
  go_wp2_with fail
  refine (truth_any _ _).mono ?_
  rintro e w' ⟨rfl, rfl⟩
  go_wp2
  go_ret
  exact ⟨rfl, rfl⟩
theorem two_ge (a b : Int) (w : World) : Calls Tryd.prog 25 #[.string (B [62,61]), .int .i64 a, .int .i64 b] w fun e w' => e = .returned (.int .i64 (truthS (decide (b ≤ a)))) ∧ w' = w := by
  have hc := B_cmp [62,61]
  go_enter Tryd.func25, Tryd.ntmps25
  go_wp2_with fail
  refine (truth_any _ _).mono ?_
  rintro e w' ⟨rfl, rfl⟩
  go_wp2
  go_ret
  exact ⟨rfl, rfl⟩
theorem two_add (a b : Int) (w : World) : Calls Tryd.prog 25 #[.string (B [43]), .int .i64 a, .int .i64 b] w fun e w' => e = .returned (.int .i64 (w64 (a + b))) ∧ w' = w := by
  have hc := B_cmp [43]
  go_enter Tryd.func25, Tryd.ntmps25
  go_wp2
  go_ret
  exact ⟨by rw [w64_wrap]; rfl, rfl⟩
theorem two_sub (a b : Int) (w : World) : Calls Tryd.prog 25 #[.string (B [45]), .int .i64 a, .int .i64 b] w fun e w' => e = .returned (.int .i64 (w64 (a - b))) ∧ w' = w := by
  have hc := B_cmp [45]
  go_enter Tryd.func25, Tryd.ntmps25
  go_wp2
  go_ret
  exact ⟨by rw [w64_wrap]; rfl, rfl⟩
theorem two_mul (a b : Int) (w : World) : Calls Tryd.prog 25 #[.string (B [42]), .int .i64 a, .int .i64 b] w fun e w' => e = .returned (.int .i64 (w64 (a * b))) ∧ w' = w := by
  have hc := B_cmp [42]
  go_enter Tryd.func25, Tryd.ntmps25
  go_wp2
  go_ret
  exact ⟨by rw [w64_wrap]; rfl, rfl⟩
theorem and63 (b : Int) : 0 ≤ bits .and .i64 b 63 ∧ bits .and .i64 b 63 ≤ 63 := by
  show 0 ≤ IntKind.i64.wrap ((BitVec.ofInt 64 b &&& BitVec.ofInt 64 63).toNat : Int) ∧ IntKind.i64.wrap ((BitVec.ofInt 64 b &&& BitVec.ofInt 64 63).toNat : Int) ≤ 63
  have h : (BitVec.ofInt 64 b &&& BitVec.ofInt 64 63).toNat ≤ 63 := by
    rw [BitVec.toNat_and]; exact Nat.and_le_right
  rw [IntKind.wrap_i64]; omega
theorem min63 (b : Int) : min (and64 b 63).toNat 64 = (bits .and .i64 b 63).toNat := by
  have h := and63 b
  show min (bits .and .i64 b 63).toNat 64 = _
  omega
theorem two_shl (a b : Int) (w : World) : Calls Tryd.prog 25 #[.string (B [60,60]), .int .i64 a, .int .i64 b] w fun e w' => e = .returned (.int .i64 (w64 (a * 2 ^ (min (and64 b 63).toNat 64)))) ∧ w' = w := by
  have hc := B_cmp [60,60]
  obtain ⟨h0, h1⟩ := and63 b
  go_enter Tryd.func25, Tryd.ntmps25
  go_wp2
  go_ret
  exact ⟨by rw [w64_wrap, min63]; rfl, rfl⟩
theorem two_shr (a b : Int) (w : World) : Calls Tryd.prog 25 #[.string (B [62,62]), .int .i64 a, .int .i64 b] w fun e w' => e = .returned (.int .i64 (a.fdiv (2 ^ (min (and64 b 63).toNat 64)))) ∧ w' = w := by
  have hc := B_cmp [62,62]
  obtain ⟨h0, h1⟩ := and63 b
  go_enter Tryd.func25, Tryd.ntmps25
  go_wp2
  go_ret
  exact ⟨by rw [min63, Int.fdiv_eq_ediv_of_nonneg _ (Int.pow_nonneg (by decide))]; rfl, rfl⟩
theorem two_quo (a b : Int) (hb : b ≠ 0) (w : World) : Calls Tryd.prog 25 #[.string (B [47]), .int .i64 a, .int .i64 b] w fun e w' => e = .returned (.int .i64 (w64 (a.tdiv b))) ∧ w' = w := by
  have hc := B_cmp [47]
  have hb2 : (b == 0) = false := by simpa using hb
  go_enter Tryd.func25, Tryd.ntmps25
  go_wp2
  go_ret
  exact ⟨by rw [w64_wrap]; rfl, rfl⟩
theorem tmod_in {a b : Int} (ha : IsI a) : wrap64 (a.tmod b) = a.tmod b := by
  rw [← w64_wrap]
  apply w64_in
  unfold IsI at *
  have h := Int.natAbs_tmod a b
  have h2 : a.natAbs % b.natAbs ≤ a.natAbs := Nat.mod_le _ _
  have h3 : 0 ≤ a → 0 ≤ a.tmod b := fun h => Int.tmod_nonneg _ h
  have h4 : a ≤ 0 → a.tmod b ≤ 0 := fun h => by
    have := Int.tmod_nonneg b (a := -a) (by omega)
    rw [Int.neg_tmod] at this; omega
  rw [← h] at h2
  omega
def otherS (s : Bytes) : Prop := s ≠ [124] ∧ s ≠ [94] ∧ s ≠ [38] ∧ s ≠ [61,61] ∧ s ≠ [33,61] ∧ s ≠ [60] ∧ s ≠ [60,61] ∧ s ≠ [62] ∧ s ≠ [62,61] ∧ s ≠ [60,60] ∧ s ≠ [62,62] ∧ s ≠ [43] ∧ s ≠ [45] ∧ s ≠ [42]
theorem two_zero {s : Bytes} (hs : otherS s) (a : Int) (w : World) : Calls Tryd.prog 25 #[.string (B s), .int .i64 a, .int .i64 0] w fun e w' => e = .panicked [{ v := .iface 27 (.int .i64 22), recovered := false }] ∧ w' = w := by
  have c0 := (B_cmp s [124]).trans (decide_eq_false hs.1)
  have c1 := (B_cmp s [94]).trans (decide_eq_false hs.2.1)
  have c2 := (B_cmp s [38]).trans (decide_eq_false hs.2.2.1)
  have c3 := (B_cmp s [61,61]).trans (decide_eq_false hs.2.2.2.1)
  have c4 := (B_cmp s [33,61]).trans (decide_eq_false hs.2.2.2.2.1)
  have c5 := (B_cmp s [60]).trans (decide_eq_false hs.2.2.2.2.2.1)
  have c6 := (B_cmp s [60,61]).trans (decide_eq_false hs.2.2.2.2.2.2.1)
  have c7 := (B_cmp s [62]).trans (decide_eq_false hs.2.2.2.2.2.2.2.1)
  have c8 := (B_cmp s [62,61]).trans (decide_eq_false hs.2.2.2.2.2.2.2.2.1)
  have c9 := (B_cmp s [60,60]).trans (decide_eq_false hs.2.2.2.2.2.2.2.2.2.1)
  have c10 := (B_cmp s [62,62]).trans (decide_eq_false hs.2.2.2.2.2.2.2.2.2.2.1)
  have c11 := (B_cmp s [43]).trans (decide_eq_false hs.2.2.2.2.2.2.2.2.2.2.2.1)
  have c12 := (B_cmp s [45]).trans (decide_eq_false hs.2.2.2.2.2.2.2.2.2.2.2.2.1)
  have c13 := (B_cmp s [42]).trans (decide_eq_false hs.2.2.2.2.2.2.2.2.2.2.2.2.2)
  clear hs
  go_enter Tryd.func25, Tryd.ntmps25
  go_wp2
  exact ⟨rfl, rfl, rfl⟩
theorem two_rem {s : Bytes} (hs : otherS s) (h47 : s ≠ [47]) (a b : Int) (ha : IsI a) (hb : b ≠ 0) (w : World) : Calls Tryd.prog 25 #[.string (B s), .int .i64 a, .int .i64 b] w fun e w' => e = .returned (.int .i64 (a.tmod b)) ∧ w' = w := by
  have c14 := (B_cmp s [47]).trans (decide_eq_false h47)
  have hb2 : (b == 0) = false := by simpa using hb
  have HA := Lib.hid (tmod_in (b := b) ha)
  clear ha h47
  have c0 := (B_cmp s [124]).trans (decide_eq_false hs.1)
  have c1 := (B_cmp s [94]).trans (decide_eq_false hs.2.1)
  have c2 := (B_cmp s [38]).trans (decide_eq_false hs.2.2.1)
  have c3 := (B_cmp s [61,61]).trans (decide_eq_false hs.2.2.2.1)
  have c4 := (B_cmp s [33,61]).trans (decide_eq_false hs.2.2.2.2.1)
  have c5 := (B_cmp s [60]).trans (decide_eq_false hs.2.2.2.2.2.1)
  have c6 := (B_cmp s [60,61]).trans (decide_eq_false hs.2.2.2.2.2.2.1)
  have c7 := (B_cmp s [62]).trans (decide_eq_false hs.2.2.2.2.2.2.2.1)
  have c8 := (B_cmp s [62,61]).trans (decide_eq_false hs.2.2.2.2.2.2.2.2.1)
  have c9 := (B_cmp s [60,60]).trans (decide_eq_false hs.2.2.2.2.2.2.2.2.2.1)
  have c10 := (B_cmp s [62,62]).trans (decide_eq_false hs.2.2.2.2.2.2.2.2.2.2.1)
  have c11 := (B_cmp s [43]).trans (decide_eq_false hs.2.2.2.2.2.2.2.2.2.2.2.1)
  have c12 := (B_cmp s [45]).trans (decide_eq_false hs.2.2.2.2.2.2.2.2.2.2.2.2.1)
  have c13 := (B_cmp s [42]).trans (decide_eq_false hs.2.2.2.2.2.2.2.2.2.2.2.2.2)
  clear hs
  go_enter Tryd.func25, Tryd.ntmps25
  go_wp2
  go_ret
  exact ⟨by rw [← HA.out]; rfl, rfl⟩
theorem two_any (s : Bytes) (a b : Int) (ha : IsI a) (w : World) : Calls Tryd.prog 25 #[.string (B s), .int .i64 a, .int .i64 b] w fun e w' => e = twoE (twoV s a b) ∧ w' = w := by
  by_cases h0 : s = [124]
  · subst h0; exact two_or a b w
  by_cases h1 : s = [94]
  · subst h1; exact two_xor a b w
  by_cases h2 : s = [38]
  · subst h2; exact two_and a b w
  by_cases h3 : s = [61,61]
  · subst h3; exact two_eq a b w
  by_cases h4 : s = [33,61]
  · subst h4; exact two_ne a b w
  by_cases h5 : s = [60]
  · subst h5; exact two_lt a b w
  by_cases h6 : s = [60,61]
  · subst h6; exact two_le a b w
  by_cases h7 : s = [62]
  · subst h7; exact two_gt a b w
  by_cases h8 : s = [62,61]
  · subst h8; exact two_ge a b w
  by_cases h9 : s = [60,60]
  · subst h9; exact two_shl a b w
  by_cases h10 : s = [62,62]
  · subst h10; exact two_shr a b w
  by_cases h11 : s = [43]
  · subst h11; exact two_add a b w
  by_cases h12 : s = [45]
  · subst h12; exact two_sub a b w
  by_cases h13 : s = [42]
  · subst h13; exact two_mul a b w
  have hs : otherS s := ⟨h0, h1, h2, h3, h4, h5, h6, h7, h8, h9, h10, h11, h12, h13⟩
  have e : twoV s a b = if b = 0 then none else if s = [47] then some (w64 (a.tdiv b)) else some (a.tmod b) := by
    unfold twoV
    rw [if_neg h0, if_neg h1, if_neg h2, if_neg h3, if_neg h4, if_neg h5, if_neg h6, if_neg h7, if_neg h8, if_neg h9, if_neg h10, if_neg h11, if_neg h12, if_neg h13]
  rw [e]
  by_cases hb : b = 0
  · subst hb
    rw [if_pos rfl]
    exact two_zero hs a w
  · rw [if_neg hb]
    by_cases h47 : s = [47]
    · subst h47
      rw [if_pos rfl]
      exact two_quo a b hb w
    · rw [if_neg h47]
      exact two_rem hs h47 a b ha hb w
theorem ret_bool {a b : Bool} (h : a = b) : Ending.returned (.bool a) = .returned (.bool b) := by rw [h]
theorem or32 (c : UInt8) : bits .or .u8 (c.toNat : Int) 32 = ((c.toNat ||| 32 : Nat) : Int) :=
  (bits_nat .u8 8 (by decide) (fun n h0 h1 => by show n % 256 = n; omega) c.toNat 32 (by simpa using c.toNat_lt) (by decide)).2
theorem letter_any (c : UInt8) (w : World) : Calls Tryd.prog 19 #[.int .u8 c.toNat] w fun e w' => e = .returned (.bool (isLet c)) ∧ w' = w := by
  have h32 := or32 c
  have h95 : ((c.toNat : Int) == 95) = (c == 95) := by
    rw [Bool.eq_iff_iff]; simp [← UInt8.toNat_inj]; omega
  have HL : Hid (isLet c = ((decide ((97 : Int) ≤ ((c.toNat ||| 32 : Nat) : Int)) && decide (((c.toNat ||| 32 : Nat) : Int) ≤ 122)) || c == 95)) := Lib.hid (by
    unfold isLet; rw [UInt8.toNat_or]
    congr 2
    · rw [Bool.eq_iff_iff]; simp; omega
    · rw [Bool.eq_iff_iff]; simp; omega)
  generalize ((c.toNat ||| 32 : Nat) : Int) = z at *
  by_cases h1 : 97 ≤ z
  · by_cases h2 : z ≤ 122
    · have HR : Hid (isLet c = true) := Lib.hid (by rw [HL.out]; simp [h1, h2])
      clear HL
      go_enter Tryd.func19, Tryd.ntmps19
      go_wp2
      go_ret
      exact ⟨ret_bool HR.out.symm, rfl⟩
    · have HR : Hid (isLet c = (c == 95)) := Lib.hid (by rw [HL.out]; simp [h2])
      clear HL
      go_enter Tryd.func19, Tryd.ntmps19
      go_wp2
      go_ret
      refine ⟨ret_bool ?_, rfl⟩
      rw [HR.out]
  · have HR : Hid (isLet c = (c == 95)) := Lib.hid (by rw [HL.out]; simp [h1])
    clear HL
    go_enter Tryd.func19, Tryd.ntmps19
    go_wp2
    go_ret
    exact ⟨ret_bool HR.out.symm, rfl⟩
end Go.Proofs.YtpjjdaenckedbaaDoor
