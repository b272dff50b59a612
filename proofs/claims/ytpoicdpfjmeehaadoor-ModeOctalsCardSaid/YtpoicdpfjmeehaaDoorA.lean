/- Right and May, by the program and by the document. -/
import Derived.Test.YtpoicdpfjmeehaaDoorProg
import Derived.WalkKit
import Derived.Lib.Hide
import Derived.Laws.BitsLemmas
namespace Go.Proofs.YtpoicdpfjmeehaaDoor
open Go.RowKit

abbrev Bytes := List UInt8
abbrev big : Nat := 9223372036854775808

theorem and_nat {a b : Nat} (ha : a < big) (hb : b < big) : bits .and .i64 (a : Int) (b : Int) = ((a &&& b : Nat) : Int) :=
  (bits_nat .i64 63 (by decide) (fun n h0 h1 => by rw [IntKind.wrap_i64]; omega) a b (by simpa using ha) (by simpa using hb)).1
theorem or_nat {a b : Nat} (ha : a < big) (hb : b < big) : bits .or .i64 (a : Int) (b : Int) = ((a ||| b : Nat) : Int) :=
  (bits_nat .i64 63 (by decide) (fun n h0 h1 => by rw [IntKind.wrap_i64]; omega) a b (by simpa using ha) (by simpa using hb)).2
theorem andNot_nat {a b : Nat} (ha : a < big) (hb : b < big) : bits .andNot .i64 (a : Int) (b : Int) = ((a &&& (18446744073709551615 - b) : Nat) : Int) := by
  have h1 : (BitVec.ofInt 64 (a : Int)).toNat = a := by rw [BitVec.ofInt_natCast, BitVec.toNat_ofNat]; exact Nat.mod_eq_of_lt (by unfold big at ha; omega)
  have h2 : (BitVec.ofInt 64 (b : Int)).toNat = b := by rw [BitVec.ofInt_natCast, BitVec.toNat_ofNat]; exact Nat.mod_eq_of_lt (by unfold big at hb; omega)
  have h3 : (BitVec.ofInt 64 (a : Int) &&& ~~~(BitVec.ofInt 64 (b : Int))).toNat = a &&& (18446744073709551615 - b) := by
    rw [BitVec.toNat_and, BitVec.toNat_not, h1, h2]
  have h4 : a &&& (18446744073709551615 - b) ≤ a := Nat.and_le_left
  show IntKind.i64.wrap ((BitVec.ofInt 64 (a : Int) &&& ~~~(BitVec.ofInt 64 (b : Int))).toNat : Int) = _
  rw [h3, IntKind.wrap_i64]
  unfold big at ha
  omega
theorem andNot_zero {a b : Nat} (ha : a < big) (hb : b < big) : a &&& (18446744073709551615 - b) = 0 ↔ a &&& b = a := by
  have hbit : ∀ i, (18446744073709551615 - b).testBit i = (decide (i < 64) && !b.testBit i) := fun i => by
    have := Nat.testBit_two_pow_sub_succ (x := b) (n := 64) (by unfold big at hb; omega) i
    rw [← this]
    congr 1
    omega
  have hai : ∀ i, 64 ≤ i → a.testBit i = false := fun i hi => Nat.testBit_lt_two_pow (Nat.lt_of_lt_of_le (show a < 2 ^ 64 by unfold big at ha; omega) (Nat.pow_le_pow_right (by decide) hi))
  constructor
  · intro h
    apply Nat.eq_of_testBit_eq
    intro i
    have hi := congrArg (fun x => x.testBit i) h
    simp only [Nat.testBit_and, hbit, Nat.zero_testBit] at hi
    rw [Nat.testBit_and]
    by_cases h64 : i < 64
    · simp only [h64, decide_true, Bool.true_and] at hi
      cases h1 : a.testBit i <;> cases h2 : b.testBit i <;> simp_all
    · rw [hai i (by omega)]; rfl
  · intro h
    apply Nat.eq_of_testBit_eq
    intro i
    have hi := congrArg (fun x => x.testBit i) h
    simp only [Nat.testBit_and] at hi
    rw [Nat.testBit_and, hbit, Nat.zero_testBit]
    cases h1 : a.testBit i <;> cases h2 : b.testBit i <;> simp_all

/-- A number is a mode. -/
def rightB (m : Int) : Bool := bits .and .i64 m 3071 == m
theorem right_nat {m : Int} (h : rightB m = true) : ∃ n : Nat, m = n ∧ n ≤ 3071 := by
  unfold rightB at h
  rw [beq_iff_eq] at h
  have h2 : (BitVec.ofInt 64 (3071 : Int)).toNat = 3071 := by decide
  have hle : (BitVec.ofInt 64 m &&& BitVec.ofInt 64 (3071 : Int)).toNat ≤ 3071 := by
    rw [BitVec.toNat_and, h2]; exact Nat.and_le_right
  have h3 : bits .and .i64 m 3071 = IntKind.i64.wrap ((BitVec.ofInt 64 m &&& BitVec.ofInt 64 (3071 : Int)).toNat : Int) := rfl
  rw [h3, IntKind.wrap_i64] at h
  exact ⟨(BitVec.ofInt 64 m &&& BitVec.ofInt 64 (3071 : Int)).toNat, by omega, hle⟩
theorem right_iff {n : Nat} (h : n < big) : rightB (n : Int) = true ↔ n &&& 3071 = n := by
  unfold rightB
  have := and_nat (b := 3071) h (by decide)
  rw [show ((3071 : Nat) : Int) = 3071 from rfl] at this
  rw [this, beq_iff_eq]
  omega

theorem right_any (m : Int) (w : World) : Calls Tryd.prog 12 #[.int .i64 m] w fun e w' => e = .returned (.bool (rightB m)) ∧ w' = w := by
  go_enter Tryd.func12, Tryd.ntmps12
  go_wp2
  go_ret
  exact ⟨rfl, rfl⟩
theorem rright_any (m : Int) (hm : m < 9223372036854775808) (w : World) : Calls Tryd.prog 13 #[.int .i64 m] w fun e w' => e = .returned (.bool (rightB m)) ∧ w' = w := by
  by_cases h0 : 0 ≤ m
  · obtain ⟨n, rfl⟩ : ∃ n : Nat, m = n := ⟨m.toNat, by omega⟩
    have hn : n < big := by unfold big; omega
    have hk : bits .andNot .i64 (n : Int) 3071 = ((n &&& (18446744073709551615 - 3071) : Nat) : Int) := andNot_nat (b := 3071) hn (by decide)
    have hr : rightB (n : Int) = (((n &&& (18446744073709551615 - 3071) : Nat) : Int) == 0) := by
      rw [Bool.eq_iff_iff, right_iff hn, beq_iff_eq, ← andNot_zero (b := 3071) hn (by decide)]
      omega
    rw [hr]
    clear hr
    generalize ((n &&& (18446744073709551615 - 3071) : Nat) : Int) = k at *
    go_enter Tryd.func13, Tryd.ntmps13
    go_wp2
    go_ret
    exact ⟨rfl, rfl⟩
  · have hr : rightB m = false := by
      cases hh : rightB m with
      | false => rfl
      | true => obtain ⟨n, rfl, _⟩ := right_nat hh; omega
    rw [hr]
    have h1 : m < 0 := by omega
    clear hr h0
    go_enter Tryd.func13, Tryd.ntmps13
    go_wp2
    go_ret
    exact ⟨rfl, rfl⟩

/-- What of a mode counts for somebody. -/
def yS (m : Nat) (owner group uid gid : Int) : Nat := if uid = owner then m / 64 else if gid = group then m / 8 else m
/-- Somebody may, or may not. -/
def mayS (m owner group : Int) (dir : Bool) (uid gid want : Int) : Bool :=
  if rightB m = false ∨ want < 1 ∨ 7 < want then false
  else if uid = 0 then dir || ((want.toNat &&& 1) == 0) || !((m.toNat &&& 73) == 0)
  else (want.toNat &&& yS m.toNat owner group uid gid) == want.toNat

theorem cast_beq (a b : Nat) : ((a : Int) == (b : Int)) = (a == b) := by
  rw [Bool.eq_iff_iff, beq_iff_eq, beq_iff_eq]; omega
theorem zero_beq (a : Nat) : ((a : Int) == 0) = (a == 0) := cast_beq a 0

set_option maxHeartbeats 1000000 in
theorem may_any (m owner group : Int) (dir : Bool) (uid gid want : Int) (w : World) :
    Calls Tryd.prog 14 #[.int .i64 m, .int .i64 owner, .int .i64 group, .bool dir, .int .i64 uid, .int .i64 gid, .int .i64 want] w fun e w' => e = .returned (.bool (mayS m owner group dir uid gid want)) ∧ w' = w := by
  unfold mayS
  by_cases hr : rightB m = true
  · by_cases h1 : want < 1
    · rw [if_pos (.inr (.inl h1))]
      go_enter Tryd.func14, Tryd.ntmps14
      go_wp2_with fail
      refine (right_any _ _).mono ?_
      rintro e w' ⟨he, rfl⟩
      rw [hr] at he
      subst he
      clear hr
      go_wp2
      go_ret
      exact ⟨rfl, rfl⟩
    · by_cases h7 : 7 < want
      · rw [if_pos (.inr (.inr h7))]
        go_enter Tryd.func14, Tryd.ntmps14
        go_wp2_with fail
        refine (right_any _ _).mono ?_
        rintro e w' ⟨he, rfl⟩
        rw [hr] at he
        subst he
        clear hr
        go_wp2
        go_ret
        exact ⟨rfl, rfl⟩
      · rw [if_neg (by rw [hr]; simp; omega)]
        obtain ⟨n, rfl, hn⟩ := right_nat hr
        obtain ⟨v, rfl⟩ : ∃ v : Nat, want = v := ⟨want.toNat, by omega⟩
        have a1 : bits .and .i64 (v : Int) 1 = ((v &&& 1 : Nat) : Int) := and_nat (b := 1) (by unfold big; omega) (by decide)
        have a2 : bits .and .i64 (n : Int) 73 = ((n &&& 73 : Nat) : Int) := and_nat (b := 73) (by unfold big; omega) (by decide)
        have a3 : ∀ y : Nat, y < big → (bits .andNot .i64 (v : Int) (y : Int) == 0) = ((v &&& y) == v) := fun y hy => by
          rw [andNot_nat (by unfold big; omega) hy, zero_beq, Bool.eq_iff_iff, beq_iff_eq, beq_iff_eq]
          exact andNot_zero (by unfold big; omega) hy
        rw [Int.toNat_natCast, Int.toNat_natCast]
        by_cases hu : uid = 0
        · rw [if_pos hu]
          subst hu
          have z1 := zero_beq (v &&& 1)
          have z2 := zero_beq (n &&& 73)
          rw [← z1, ← z2]
          clear a3 hn z1 z2
          generalize ((v &&& 1 : Nat) : Int) = x1 at *
          generalize ((n &&& 73 : Nat) : Int) = x2 at *
          go_enter Tryd.func14, Tryd.ntmps14
          go_wp2_with fail
          refine (right_any _ _).mono ?_
          rintro e w' ⟨he, rfl⟩
          rw [hr] at he
          subst he
          clear hr
          go_wp2
          all_goals go_ret
          all_goals refine ⟨?_, rfl⟩
          all_goals simp [*, bne]
        · rw [if_neg hu]
          have b0 : (bits .andNot .i64 (v : Int) (n : Int) == 0) = ((v &&& n) == v) := a3 n (by unfold big; omega)
          have b1 : (bits .andNot .i64 (v : Int) ((n : Int) / 64) == 0) = ((v &&& (n / 64)) == v) := by
            rw [show (n : Int) / 64 = ((n / 64 : Nat) : Int) by omega]; exact a3 _ (by unfold big; omega)
          have b2 : (bits .andNot .i64 (v : Int) ((n : Int) / 8) == 0) = ((v &&& (n / 8)) == v) := by
            rw [show (n : Int) / 8 = ((n / 8 : Nat) : Int) by omega]; exact a3 _ (by unfold big; omega)
          unfold yS
          by_cases ho : uid = owner
          · rw [if_pos ho, ← b1]
            clear a1 a2 a3 b0 b1 b2 hn
            subst ho
            go_enter Tryd.func14, Tryd.ntmps14
            go_wp2_with fail
            refine (right_any _ _).mono ?_
            rintro e w' ⟨he, rfl⟩
            rw [hr] at he
            subst he
            clear hr
            go_wp2
            go_ret
            exact ⟨rfl, rfl⟩
          · rw [if_neg ho]
            by_cases hg : gid = group
            · rw [if_pos hg, ← b2]
              clear a1 a2 a3 b0 b1 b2 hn
              subst hg
              go_enter Tryd.func14, Tryd.ntmps14
              go_wp2_with fail
              refine (right_any _ _).mono ?_
              rintro e w' ⟨he, rfl⟩
              rw [hr] at he
              subst he
              clear hr
              go_wp2
              go_ret
              exact ⟨rfl, rfl⟩
            · rw [if_neg hg, ← b0]
              clear a1 a2 a3 b0 b1 b2 hn
              go_enter Tryd.func14, Tryd.ntmps14
              go_wp2_with fail
              refine (right_any _ _).mono ?_
              rintro e w' ⟨he, rfl⟩
              rw [hr] at he
              subst he
              clear hr
              go_wp2
              go_ret
              exact ⟨rfl, rfl⟩
  · have hr2 : rightB m = false := by simpa using hr
    rw [if_pos (.inl hr2)]
    go_enter Tryd.func14, Tryd.ntmps14
    go_wp2_with fail
    refine (right_any _ _).mono ?_
    rintro e w' ⟨he, rfl⟩
    rw [hr2] at he
    subst he
    clear hr hr2
    go_wp2
    go_ret
    exact ⟨rfl, rfl⟩

end Go.Proofs.YtpoicdpfjmeehaaDoor
