/- ModeOne. -/
import Derived.Test.YtpoicdpfjmeehaaDoorI
import Derived.Deep.CutRange
namespace Go.Proofs.YtpoicdpfjmeehaaDoor
open Go.RowKit

theorem low_bits (m : Int) (k : Nat) (hk : k < big) : ∃ n : Nat, bits .and .i64 m (k : Int) = (n : Int) ∧ n ≤ k := by
  have h2 : (BitVec.ofInt 64 (k : Int)).toNat = k := by
    rw [BitVec.ofInt_natCast, BitVec.toNat_ofNat]; exact Nat.mod_eq_of_lt (by unfold big at hk; omega)
  have hle : (BitVec.ofInt 64 m &&& BitVec.ofInt 64 (k : Int)).toNat ≤ k := by
    rw [BitVec.toNat_and, h2]; exact Nat.and_le_right
  refine ⟨(BitVec.ofInt 64 m &&& BitVec.ofInt 64 (k : Int)).toNat, ?_, hle⟩
  show IntKind.i64.wrap ((BitVec.ofInt 64 m &&& BitVec.ofInt 64 (k : Int)).toNat : Int) = _
  rw [IntKind.wrap_i64]
  unfold big at hk
  omega
theorem xor_one (g : Nat) (hg : g ≤ 65535) : ∃ y : Int, bits .xor .i64 (g : Int) 1 = y ∧ y ≠ g := by
  have h1 : (BitVec.ofInt 64 (g : Int)).toNat = g := by rw [BitVec.ofInt_natCast, BitVec.toNat_ofNat]; exact Nat.mod_eq_of_lt (by omega)
  have h2 : (BitVec.ofInt 64 1).toNat = 1 := by decide
  have h3 : (BitVec.ofInt 64 (g : Int) ^^^ BitVec.ofInt 64 1).toNat = g ^^^ 1 := by rw [BitVec.toNat_xor, h1, h2]
  have h4 : g ^^^ 1 < 65536 := Nat.xor_lt_two_pow (n := 16) (by omega) (by decide)
  have h5 : bits .xor .i64 (g : Int) 1 = ((g ^^^ 1 : Nat) : Int) := by
    show IntKind.i64.wrap ((BitVec.ofInt 64 (g : Int) ^^^ BitVec.ofInt 64 1).toNat : Int) = _
    rw [h3, IntKind.wrap_i64]
    omega
  refine ⟨_, h5, fun h => ?_⟩
  have h6 : g ^^^ 1 = g := by omega
  have h7 := congrArg (fun x => g ^^^ x) h6
  simp only [← Nat.xor_assoc, Nat.xor_self, Nat.zero_xor] at h7
  omega
theorem small_right {x : Nat} (h : x < 512) : rightB (x : Int) = true := by
  rw [right_iff (by unfold big; omega)]
  have h1 : x &&& 511 = x := by
    have := Nat.and_two_pow_sub_one_eq_mod x 9
    rw [show (2 ^ 9 - 1 : Nat) = 511 from rfl] at this
    rw [this]; omega
  calc x &&& 3071 = (x &&& 511) &&& 3071 := by rw [h1]
    _ = x &&& (511 &&& 3071) := Nat.and_assoc _ _ _
    _ = x &&& 511 := rfl
    _ = x := h1
theorem w7 {v : Nat} (hv : v ≤ 7) : v &&& 7 = v := by
  have := Nat.and_two_pow_sub_one_eq_mod v 3
  rw [show (2 ^ 3 - 1 : Nat) = 7 from rfl] at this
  rw [this]; omega
theorem wz {v : Nat} (hv : v ≤ 7) (k : Nat) (hk : 7 &&& k = 0) : v &&& k = 0 := by
  rw [← w7 hv, Nat.and_assoc, hk, Nat.and_zero]
theorem one_a {v n p : Nat} (hv : v ≤ 7) : v &&& ((n &&& 448 ||| p &&& 63) / 64) = v &&& (n / 64) := by
  have h : (n &&& 448 ||| p &&& 63) / 64 = (n / 64) &&& 7 := by
    rw [show (64 : Nat) = 2 ^ 6 from rfl, ← Nat.shiftRight_eq_div_pow, ← Nat.shiftRight_eq_div_pow, Nat.shiftRight_or_distrib, Nat.shiftRight_and_distrib, Nat.shiftRight_and_distrib]
    show (n >>> 6 &&& 7) ||| (p >>> 6 &&& 0) = _
    rw [Nat.and_zero, Nat.or_zero]
  rw [h, Nat.and_comm (n / 64) 7, ← Nat.and_assoc, w7 hv]
theorem one_b {v n p : Nat} (hv : v ≤ 7) : v &&& ((n &&& 56 ||| p &&& 455) / 8) = v &&& (n / 8) := by
  have h : (n &&& 56 ||| p &&& 455) / 8 = (n / 8 &&& 7) ||| (p / 8 &&& 56) := by
    rw [show (8 : Nat) = 2 ^ 3 from rfl, ← Nat.shiftRight_eq_div_pow, ← Nat.shiftRight_eq_div_pow, ← Nat.shiftRight_eq_div_pow, Nat.shiftRight_or_distrib, Nat.shiftRight_and_distrib, Nat.shiftRight_and_distrib]
    rfl
  rw [h, Nat.and_or_distrib_left, Nat.and_comm (n / 8) 7, ← Nat.and_assoc, w7 hv, Nat.and_comm (p / 8) 56, ← Nat.and_assoc, wz hv 56 (by decide), Nat.zero_and, Nat.or_zero]
theorem one_c {v n p : Nat} (hv : v ≤ 7) : v &&& (n &&& 7 ||| p &&& 504) = v &&& n := by
  rw [Nat.and_or_distrib_left, Nat.and_comm n 7, ← Nat.and_assoc, w7 hv, Nat.and_comm p 504, ← Nat.and_assoc, wz hv 504 (by decide), Nat.zero_and, Nat.or_zero]
theorem or_small {a b : Nat} (ha : a < 512) (hb : b < 512) : a ||| b < 512 := Nat.or_lt_two_pow (n := 9) ha hb
theorem may_of {x : Nat} (hx : x < 512) (o gr : Int) (dir : Bool) {u gid : Int} (hu : u ≠ 0) {v : Nat} (h1 : 1 ≤ v) (h7 : v ≤ 7) : mayS x o gr dir u gid v = ((v &&& yS x o gr u gid) == v) := by
  unfold mayS
  rw [if_neg (by rw [small_right hx]; simp; omega), if_neg hu]
  rfl

set_option maxHeartbeats 2000000 in
set_option maxRecDepth 100000 in
/-- ModeOne. -/
theorem one_law (m other a b c : Int) (w : World) (hM : HasM w) :
    Calls Tryd.prog 6 #[.int .i64 m, .int .i64 other, .int .i64 a, .int .i64 b, .int .i64 c] w fun e w' => e = .returned (.bool true) ∧ Below w.heap.size w w' := by
  obtain ⟨n, hn, hn5⟩ := low_bits m 511 (by decide)
  obtain ⟨p, hp, hp5⟩ := low_bits other 511 (by decide)
  obtain ⟨wq, hw, hw5⟩ := low_bits c 65535 (by decide)
  obtain ⟨uq, hu, hu5⟩ := low_bits a 65535 (by decide)
  obtain ⟨g, hg, hg5⟩ := low_bits b 65535 (by decide)
  obtain ⟨gx, hgx, hgne⟩ := xor_one g hg5
  replace hn : bits .and .i64 m 511 = n := hn
  replace hp : bits .and .i64 other 511 = p := hp
  replace hw : bits .and .i64 c 65535 = wq := hw
  replace hu : bits .and .i64 a 65535 = uq := hu
  replace hg : bits .and .i64 b 65535 = g := hg
  obtain ⟨v, hv, hv1, hv7⟩ : ∃ v : Nat, (1 : Int) + (wq : Int) % 7 = (v : Int) ∧ 1 ≤ v ∧ v ≤ 7 :=
    ⟨1 + wq % 7, by omega, by omega, by omega⟩
  obtain ⟨u, hu2, hu1, hu6⟩ : ∃ u : Nat, (1 : Int) + (uq : Int) = (u : Int) ∧ 1 ≤ u ∧ u ≤ 65536 := ⟨1 + uq, by omega, by omega, by omega⟩
  have hu0 : (u : Int) ≠ 0 := by omega
  have hun : (u : Int) ≠ (u : Int) - 1 := by omega
  have hgn : (g : Int) ≠ gx := fun h => hgne h.symm
  have b1 : bits .and .i64 (n : Int) 448 = ((n &&& 448 : Nat) : Int) := and_nat (b := 448) (by unfold big; omega) (by decide)
  have b2 : bits .and .i64 (p : Int) 63 = ((p &&& 63 : Nat) : Int) := and_nat (b := 63) (by unfold big; omega) (by decide)
  have b3 : bits .and .i64 (n : Int) 56 = ((n &&& 56 : Nat) : Int) := and_nat (b := 56) (by unfold big; omega) (by decide)
  have b4 : bits .and .i64 (p : Int) 455 = ((p &&& 455 : Nat) : Int) := and_nat (b := 455) (by unfold big; omega) (by decide)
  have b5 : bits .and .i64 (n : Int) 7 = ((n &&& 7 : Nat) : Int) := and_nat (b := 7) (by unfold big; omega) (by decide)
  have b6 : bits .and .i64 (p : Int) 504 = ((p &&& 504 : Nat) : Int) := and_nat (b := 504) (by unfold big; omega) (by decide)
  have ln : n < 512 := by omega
  have an : ∀ k, n &&& k < 512 := fun k => Nat.lt_of_le_of_lt Nat.and_le_left ln
  have ap : ∀ k, p &&& k < 512 := fun k => Nat.lt_of_le_of_lt Nat.and_le_left (by omega)
  have o1 : bits .or .i64 ((n &&& 448 : Nat) : Int) ((p &&& 63 : Nat) : Int) = ((n &&& 448 ||| p &&& 63 : Nat) : Int) := or_nat (by have := an 448; unfold big; omega) (by have := ap 63; unfold big; omega)
  have o2 : bits .or .i64 ((n &&& 56 : Nat) : Int) ((p &&& 455 : Nat) : Int) = ((n &&& 56 ||| p &&& 455 : Nat) : Int) := or_nat (by have := an 56; unfold big; omega) (by have := ap 455; unfold big; omega)
  have o3 : bits .or .i64 ((n &&& 7 : Nat) : Int) ((p &&& 504 : Nat) : Int) = ((n &&& 7 ||| p &&& 504 : Nat) : Int) := or_nat (by have := an 7; unfold big; omega) (by have := ap 504; unfold big; omega)
  have y1 : ∀ x : Nat, yS x u g u g = x / 64 := fun x => if_pos rfl
  have y2 : ∀ x : Nat, yS x ((u : Int) - 1) g u g = x / 8 := fun x => by unfold yS; rw [if_neg hun, if_pos rfl]
  have y3 : ∀ x : Nat, yS x ((u : Int) - 1) gx u g = x := fun x => by unfold yS; rw [if_neg hun, if_neg hgn]
  have A1 := Lib.hid (show mayS n u g false u g v = ((v &&& (n / 64)) == v) by rw [may_of ln _ _ _ hu0 hv1 hv7, y1])
  have A2 := Lib.hid (show mayS (n &&& 448 ||| p &&& 63 : Nat) u g false u g v = ((v &&& (n / 64)) == v) by rw [may_of (or_small (an _) (ap _)) _ _ _ hu0 hv1 hv7, y1, one_a hv7])
  have B1 := Lib.hid (show mayS n ((u : Int) - 1) g true u g v = ((v &&& (n / 8)) == v) by rw [may_of ln _ _ _ hu0 hv1 hv7, y2])
  have B2 := Lib.hid (show mayS (n &&& 56 ||| p &&& 455 : Nat) ((u : Int) - 1) g true u g v = ((v &&& (n / 8)) == v) by rw [may_of (or_small (an _) (ap _)) _ _ _ hu0 hv1 hv7, y2, one_b hv7])
  have C1 := Lib.hid (show mayS n ((u : Int) - 1) gx false u g v = ((v &&& n) == v) by rw [may_of ln _ _ _ hu0 hv1 hv7, y3])
  have C2 := Lib.hid (show mayS (n &&& 7 ||| p &&& 504 : Nat) ((u : Int) - 1) gx false u g v = ((v &&& n) == v) by rw [may_of (or_small (an _) (ap _)) _ _ _ hu0 hv1 hv7, y3, one_c hv7])
  have D1 : (bits .and .i64 ((n : Int) / 64) (v : Int) == (v : Int)) = ((v &&& (n / 64)) == v) := by
    rw [show (n : Int) / 64 = ((n / 64 : Nat) : Int) by omega, and_nat (by unfold big; omega) (by unfold big; omega), cast_beq, Nat.and_comm]
  clear y1 y2 y3 an ap hun hgn hgne hu0
  generalize n &&& 448 ||| p &&& 63 = x1 at *
  generalize n &&& 56 ||| p &&& 455 = x2 at *
  generalize n &&& 7 ||| p &&& 504 = x3 at *
  generalize ((v &&& (n / 64)) == v) = R1 at *
  generalize ((v &&& (n / 8)) == v) = R2 at *
  generalize ((v &&& n) == v) = R3 at *
  have hu6i : (u : Int) ≤ 65536 := by omega
  have hu1i : (1 : Int) ≤ u := by omega
  clear hn5 hp5 hw5 hu5 hg5 hv1 hv7 ln hu1 hu6
  go_enter Tryd.func6, Tryd.ntmps6
  go_wp2_with fail
  refine (shown_any _ hM).mono ?_
  rintro e w1 ⟨rfl, hb⟩
  have HB := Lib.hid hb
  clear hb
  go_upto_region 7 with fail
  clear hn hp hw hu hg hv hu2
  go_wp2_with fail
  refine (may_any n u g false u g v _).mono ?_
  rintro e w2 ⟨he, rfl⟩
  rw [A1.out] at he
  subst he
  go_wp2_with fail
  refine (may_any x1 u g false u g v _).mono ?_
  rintro e w2 ⟨he, rfl⟩
  rw [A2.out] at he
  subst he
  go_wp2_with fail
  refine (may_any n ((u : Int) - 1) g true u g v _).mono ?_
  rintro e w2 ⟨he, rfl⟩
  rw [B1.out] at he
  subst he
  go_wp2_with fail
  refine (may_any x2 ((u : Int) - 1) g true u g v _).mono ?_
  rintro e w2 ⟨he, rfl⟩
  rw [B2.out] at he
  subst he
  go_wp2_with fail
  refine (may_any n ((u : Int) - 1) gx false u g v _).mono ?_
  rintro e w2 ⟨he, rfl⟩
  rw [C1.out] at he
  subst he
  go_wp2_with fail
  refine (may_any x3 ((u : Int) - 1) gx false u g v _).mono ?_
  rintro e w2 ⟨he, rfl⟩
  rw [C2.out] at he
  subst he
  go_wp2_with fail
  refine (may_any n u g false u g v _).mono ?_
  rintro e w2 ⟨he, rfl⟩
  rw [A1.out] at he
  subst he
  go_wp2
  go_ret
  exact ⟨rfl, HB.out⟩
end Go.Proofs.YtpoicdpfjmeehaaDoor
