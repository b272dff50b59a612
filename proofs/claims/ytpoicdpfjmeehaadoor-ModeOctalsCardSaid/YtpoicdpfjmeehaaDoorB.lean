import Derived.Test.YtpoicdpfjmeehaaDoorA
import Derived.Deep.CutRange
namespace Go.Proofs.YtpoicdpfjmeehaaDoor
open Go.RowKit
set_option maxHeartbeats 1000000 in
set_option maxRecDepth 10000 in
theorem rmay_any (m owner group : Int) (dir : Bool) (uid gid want : Int) (hm : m < 9223372036854775808) (w : World) :
    Calls Tryd.prog 15 #[.int .i64 m, .int .i64 owner, .int .i64 group, .bool dir, .int .i64 uid, .int .i64 gid, .int .i64 want] w fun e w' => e = .returned (.bool (mayS m owner group dir uid gid want)) ∧ w' = w := by
  unfold mayS
  have HM := Lib.hid hm
  clear hm
  by_cases hr : rightB m = true
  · by_cases h1 : want < 1
    · rw [if_pos (.inr (.inl h1))]
      go_enter Tryd.func15, Tryd.ntmps15
      go_wp2_with fail
      refine (rright_any _ HM.out _).mono ?_
      rintro e w' ⟨he, rfl⟩
      rw [hr] at he
      subst he
      clear hr
      go_wp2
      go_ret
      exact ⟨rfl, rfl⟩
    · by_cases h7 : 7 < want
      · rw [if_pos (.inr (.inr h7))]
        go_enter Tryd.func15, Tryd.ntmps15
        go_wp2_with fail
        refine (rright_any _ HM.out _).mono ?_
        rintro e w' ⟨he, rfl⟩
        rw [hr] at he
        subst he
        clear hr
        go_wp2
        go_ret
        exact ⟨rfl, rfl⟩
      · rw [if_neg (by rw [hr]; simp; omega)]
        obtain ⟨n, rfl, hn⟩ := right_nat hr
        obtain ⟨v, rfl⟩ : ∃ v : Nat, want = v := ⟨want.toNat, by omega⟩
        have a1 : bits .and .i64 (v : Int) 1 = ((v &&& 1 : Nat) : Int) := and_nat (b := 1) (by unfold big; omega) (by decide)
        have a2 : bits .and .i64 (n : Int) 73 = ((n &&& 73 : Nat) : Int) := and_nat (b := 73) (by unfold big; omega) (by decide)
        have a3 : ∀ y : Nat, y < big → (bits .and .i64 (bits .and .i64 (y : Int) 7) (v : Int) == (v : Int)) = ((v &&& y) == v) := fun y hy => by
          have h7 : bits .and .i64 (y : Int) 7 = ((y &&& 7 : Nat) : Int) := and_nat (b := 7) hy (by decide)
          have hle : y &&& 7 ≤ 7 := Nat.and_le_right
          rw [h7, and_nat (by unfold big; omega) (by unfold big; omega), cast_beq]
          have hv : v &&& 7 = v := by
            have := Nat.and_two_pow_sub_one_eq_mod v 3
            rw [show (2 ^ 3 - 1 : Nat) = 7 from rfl] at this
            rw [this]; omega
          rw [show (y &&& 7) &&& v = v &&& y by rw [Nat.and_assoc, Nat.and_comm 7 v, hv, Nat.and_comm]]
        rw [Int.toNat_natCast, Int.toNat_natCast]
        by_cases hu : uid = 0
        · rw [if_pos hu]
          subst hu
          have z1 := zero_beq (v &&& 1)
          have z2 := zero_beq (n &&& 73)
          rw [← z1, ← z2]
          clear a3 hn z1 z2
          generalize ((v &&& 1 : Nat) : Int) = x1 at *
          generalize ((n &&& 73 : Nat) : Int) = x2 at *
          go_enter Tryd.func15, Tryd.ntmps15
          go_wp2_with fail
          refine (rright_any _ HM.out _).mono ?_
          rintro e w' ⟨he, rfl⟩
          rw [hr] at he
          subst he
          clear hr
          go_upto_if 28 with fail
          have hb1 : decide ((v : Int) < 1) = false := decide_eq_false (by omega)
          have hb7 : decide (7 < (v : Int)) = false := decide_eq_false (by omega)
          simp only [hb1, hb7, Bool.or_false]
          clear hb1 hb7 HM h1 h7
          go_wp2
          all_goals go_ret
          all_goals refine ⟨?_, rfl⟩
          all_goals simp [*, bne]
        · rw [if_neg hu]
          have b0 : (bits .and .i64 (bits .and .i64 (n : Int) 7) (v : Int) == (v : Int)) = ((v &&& n) == v) := a3 n (by unfold big; omega)
          have b1 : (bits .and .i64 (bits .and .i64 ((n : Int) / 64) 7) (v : Int) == (v : Int)) = ((v &&& (n / 64)) == v) := by
            rw [show (n : Int) / 64 = ((n / 64 : Nat) : Int) by omega]; exact a3 _ (by unfold big; omega)
          have b2 : (bits .and .i64 (bits .and .i64 ((n : Int) / 8) 7) (v : Int) == (v : Int)) = ((v &&& (n / 8)) == v) := by
            rw [show (n : Int) / 8 = ((n / 8 : Nat) : Int) by omega]; exact a3 _ (by unfold big; omega)
          unfold yS
          by_cases ho : uid = owner
          · rw [if_pos ho, ← b1]
            clear a1 a2 a3 b0 b1 b2 hn
            subst ho
            go_enter Tryd.func15, Tryd.ntmps15
            go_wp2_with fail
            refine (rright_any _ HM.out _).mono ?_
            rintro e w' ⟨he, rfl⟩
            rw [hr] at he
            subst he
            clear hr
            go_upto_if 28 with fail
            have hb1 : decide ((v : Int) < 1) = false := decide_eq_false (by omega)
            have hb7 : decide (7 < (v : Int)) = false := decide_eq_false (by omega)
            simp only [hb1, hb7, Bool.or_false]
            clear hb1 hb7 HM h1 h7
            go_wp2
            go_ret
            exact ⟨rfl, rfl⟩
          · rw [if_neg ho]
            by_cases hg : gid = group
            · rw [if_pos hg, ← b2]
              clear a1 a2 a3 b0 b1 b2 hn
              subst hg
              go_enter Tryd.func15, Tryd.ntmps15
              go_wp2_with fail
              refine (rright_any _ HM.out _).mono ?_
              rintro e w' ⟨he, rfl⟩
              rw [hr] at he
              subst he
              clear hr
              go_upto_if 28 with fail
              have hb1 : decide ((v : Int) < 1) = false := decide_eq_false (by omega)
              have hb7 : decide (7 < (v : Int)) = false := decide_eq_false (by omega)
              simp only [hb1, hb7, Bool.or_false]
              clear hb1 hb7 HM h1 h7
              go_wp2
              go_ret
              exact ⟨rfl, rfl⟩
            · rw [if_neg hg, ← b0]
              clear a1 a2 a3 b0 b1 b2 hn
              go_enter Tryd.func15, Tryd.ntmps15
              go_wp2_with fail
              refine (rright_any _ HM.out _).mono ?_
              rintro e w' ⟨he, rfl⟩
              rw [hr] at he
              subst he
              clear hr
              go_upto_if 28 with fail
              have hb1 : decide ((v : Int) < 1) = false := decide_eq_false (by omega)
              have hb7 : decide (7 < (v : Int)) = false := decide_eq_false (by omega)
              simp only [hb1, hb7, Bool.or_false]
              clear hb1 hb7 HM h1 h7
              go_wp2
              go_ret
              exact ⟨rfl, rfl⟩
  · have hr2 : rightB m = false := by simpa using hr
    rw [if_pos (.inl hr2)]
    go_enter Tryd.func15, Tryd.ntmps15
    go_wp2_with fail
    refine (rright_any _ HM.out _).mono ?_
    rintro e w' ⟨he, rfl⟩
    rw [hr2] at he
    subst he
    clear hr hr2
    go_wp2
    go_ret
    exact ⟨rfl, rfl⟩
end Go.Proofs.YtpoicdpfjmeehaaDoor
