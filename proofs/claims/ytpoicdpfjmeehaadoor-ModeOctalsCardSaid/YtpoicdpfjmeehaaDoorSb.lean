/- ModeSets: the walk. -/
import Derived.Test.YtpoicdpfjmeehaaDoorSa
namespace Go.Proofs.YtpoicdpfjmeehaaDoor
open Go.RowKit

theorem letters_any (r : Nat) (hr : r < 8) (w : World) : Calls Tryd.prog 22 #[.int .i64 r] w fun e w' => ∃ s : ByteArray, s.data.toList = letS r ∧ e = .returned (.string s) ∧ w' = w := by
  have HS : Hid (letS r = (if r &&& 4 = 0 then [] else [114]) ++ ((if r &&& 2 = 0 then [] else [119]) ++ (if r &&& 1 = 0 then [] else [120]))) := Lib.hid rfl
  have f4 : bits .and .i64 (r : Int) 4 = ((r &&& 4 : Nat) : Int) := and_nat (b := 4) (by unfold big; omega) (by decide)
  have f2 : bits .and .i64 (r : Int) 2 = ((r &&& 2 : Nat) : Int) := and_nat (b := 2) (by unfold big; omega) (by decide)
  have f1 : bits .and .i64 (r : Int) 1 = ((r &&& 1 : Nat) : Int) := and_nat (b := 1) (by unfold big; omega) (by decide)
  generalize letS r = L at *
  generalize r &&& 4 = z4 at *
  generalize r &&& 2 = z2 at *
  generalize r &&& 1 = z1 at *
  clear hr
  by_cases hz4 : z4 = 0
  · have pz4 : (if z4 = 0 then ([] : Bytes) else [114]) = [] := if_pos hz4
    rw [pz4] at HS
    subst hz4
    by_cases hz2 : z2 = 0
    · have pz2 : (if z2 = 0 then ([] : Bytes) else [119]) = [] := if_pos hz2
      rw [pz2] at HS
      subst hz2
      by_cases hz1 : z1 = 0
      · have pz1 : (if z1 = 0 then ([] : Bytes) else [120]) = [] := if_pos hz1
        rw [pz1] at HS
        subst hz1
        go_enter Tryd.func22, Tryd.ntmps22
        go_wp2
        go_ret
        exact ⟨_, by rw [HS.out]; rfl, rfl, rfl⟩
      · have pz1 : (if z1 = 0 then ([] : Bytes) else [120]) = [120] := if_neg hz1
        rw [pz1] at HS
        have nz1 : ¬ (z1 : Int) = 0 := by omega
        clear hz1 pz1
        go_enter Tryd.func22, Tryd.ntmps22
        go_wp2
        go_ret
        exact ⟨_, by rw [HS.out]; rfl, rfl, rfl⟩
    · have pz2 : (if z2 = 0 then ([] : Bytes) else [119]) = [119] := if_neg hz2
      rw [pz2] at HS
      have nz2 : ¬ (z2 : Int) = 0 := by omega
      clear hz2 pz2
      by_cases hz1 : z1 = 0
      · have pz1 : (if z1 = 0 then ([] : Bytes) else [120]) = [] := if_pos hz1
        rw [pz1] at HS
        subst hz1
        go_enter Tryd.func22, Tryd.ntmps22
        go_wp2
        go_ret
        exact ⟨_, by rw [HS.out]; rfl, rfl, rfl⟩
      · have pz1 : (if z1 = 0 then ([] : Bytes) else [120]) = [120] := if_neg hz1
        rw [pz1] at HS
        have nz1 : ¬ (z1 : Int) = 0 := by omega
        clear hz1 pz1
        go_enter Tryd.func22, Tryd.ntmps22
        go_wp2
        go_ret
        exact ⟨_, by rw [HS.out]; rfl, rfl, rfl⟩
  · have pz4 : (if z4 = 0 then ([] : Bytes) else [114]) = [114] := if_neg hz4
    rw [pz4] at HS
    have nz4 : ¬ (z4 : Int) = 0 := by omega
    clear hz4 pz4
    by_cases hz2 : z2 = 0
    · have pz2 : (if z2 = 0 then ([] : Bytes) else [119]) = [] := if_pos hz2
      rw [pz2] at HS
      subst hz2
      by_cases hz1 : z1 = 0
      · have pz1 : (if z1 = 0 then ([] : Bytes) else [120]) = [] := if_pos hz1
        rw [pz1] at HS
        subst hz1
        go_enter Tryd.func22, Tryd.ntmps22
        go_wp2
        go_ret
        exact ⟨_, by rw [HS.out]; rfl, rfl, rfl⟩
      · have pz1 : (if z1 = 0 then ([] : Bytes) else [120]) = [120] := if_neg hz1
        rw [pz1] at HS
        have nz1 : ¬ (z1 : Int) = 0 := by omega
        clear hz1 pz1
        go_enter Tryd.func22, Tryd.ntmps22
        go_wp2
        go_ret
        exact ⟨_, by rw [HS.out]; rfl, rfl, rfl⟩
    · have pz2 : (if z2 = 0 then ([] : Bytes) else [119]) = [119] := if_neg hz2
      rw [pz2] at HS
      have nz2 : ¬ (z2 : Int) = 0 := by omega
      clear hz2 pz2
      by_cases hz1 : z1 = 0
      · have pz1 : (if z1 = 0 then ([] : Bytes) else [120]) = [] := if_pos hz1
        rw [pz1] at HS
        subst hz1
        go_enter Tryd.func22, Tryd.ntmps22
        go_wp2
        go_ret
        exact ⟨_, by rw [HS.out]; rfl, rfl, rfl⟩
      · have pz1 : (if z1 = 0 then ([] : Bytes) else [120]) = [120] := if_neg hz1
        rw [pz1] at HS
        have nz1 : ¬ (z1 : Int) = 0 := by omega
        clear hz1 pz1
        go_enter Tryd.func22, Tryd.ntmps22
        go_wp2
        go_ret
        exact ⟨_, by rw [HS.out]; rfl, rfl, rfl⟩

theorem size_list (s : ByteArray) : s.data.toList.length = s.size := by simp
theorem sh_nat {r k : Nat} (h : r < big) : bits .and .i64 ((r : Int) / k) 7 = ((r / k &&& 7 : Nat) : Int) := by
  have h1 : (r : Int) / k = ((r / k : Nat) : Int) := by simp
  rw [h1]
  exact and_nat (b := 7) (Nat.lt_of_le_of_lt (Nat.div_le_self r k) h) (by decide)
theorem and_rights (m : Int) : ∃ n : Nat, bits .and .i64 m 511 = (n : Int) ∧ n < 512 ∧ n &&& 3071 = n := by
  have h2 : (BitVec.ofInt 64 (511 : Int)).toNat = 511 := by decide
  have h0 : (BitVec.ofInt 64 m &&& BitVec.ofInt 64 (511 : Int)).toNat = (BitVec.ofInt 64 m).toNat &&& 511 := by rw [BitVec.toNat_and, h2]
  have hle : (BitVec.ofInt 64 m).toNat &&& 511 ≤ 511 := Nat.and_le_right
  refine ⟨(BitVec.ofInt 64 m).toNat &&& 511, ?_, by omega, ?_⟩
  · have h3 : bits .and .i64 m 511 = IntKind.i64.wrap ((BitVec.ofInt 64 m &&& BitVec.ofInt 64 (511 : Int)).toNat : Int) := rfl
    rw [h3, h0, IntKind.wrap_i64]
    omega
  · rw [Nat.and_assoc]; rfl
theorem change_is (s : ByteArray) (n : Nat) (dir : Bool) (w : World) (hs : s.size ≤ 1000000000) (hM : HasM w) (hE : HasE w) (hr : rightB (n : Int) = true) {x : Nat} (hx : changeS dir n s.data.toList = some x) :
    Calls Tryd.prog 20 #[.string s, .int .i64 n, .bool dir] w fun e w' => e = .returned (.tuple #[.int .i64 x, .bool true]) ∧ Below w.heap.size w w' := by
  refine (change_all s n dir w hs hM hE).mono ?_
  rintro e w' ⟨rfl, hb⟩
  refine ⟨?_, hb⟩
  unfold changeB
  rw [if_pos hr]
  show chEnd (changeS dir n s.data.toList) = _
  rw [hx]; rfl

set_option maxHeartbeats 4000000 in
set_option maxRecDepth 100000 in
/-- ModeSets. -/
theorem sets_law (m rights : Int) (dir : Bool) (w : World) (hM : HasM w) (hE : HasE w) :
    Calls Tryd.prog 8 #[.int .i64 m, .int .i64 rights, .bool dir] w fun e w' => e = .returned (.bool true) ∧ Below w.heap.size w w' := by
  obtain ⟨n, hn, hn2, hr, hna⟩ := and_mode2 m
  obtain ⟨r, hr0, hr2, hra⟩ := and_rights rights
  have hrr : rightB (r : Int) = true := (right_iff (by unfold big; omega)).2 hra
  have j6 : bits .and .i64 ((r : Int) / 64) 7 = ((r / 64 &&& 7 : Nat) : Int) := sh_nat (k := 64) (by unfold big; omega)
  have j3 : bits .and .i64 ((r : Int) / 8) 7 = ((r / 8 &&& 7 : Nat) : Int) := sh_nat (k := 8) (by unfold big; omega)
  have j0 : bits .and .i64 (r : Int) 7 = ((r &&& 7 : Nat) : Int) := and_nat (b := 7) (by unfold big; omega) (by decide)
  have k1 : bits .or .i64 (n : Int) (r : Int) = ((n ||| r : Nat) : Int) := or_nat (by unfold big; omega) (by unfold big; omega)
  have k2 : bits .andNot .i64 (n : Int) (r : Int) = ((n &&& (full - r) : Nat) : Int) := andNot_nat (by unfold big; omega) (by unfold big; omega)
  have hu8 := and7 (r / 64)
  have hg8 := and7 (r / 8)
  have ho8 := and7 r
  have HX : Hid (changeS dir n (threeS 61 r) = some r ∧ changeS dir n (threeS 43 r) = some (n ||| r) ∧ changeS dir n (threeS 45 r) = some (n &&& (full - r)) ∧ changeS dir r (threeS 61 r) = some r) :=
    Lib.hid ⟨three_set dir hr2 hna (by unfold big; omega), three_add dir hr2, three_sub dir hr2, three_set dir hr2 hra (by unfold big; omega)⟩
  have HL := Lib.hid (fun c => three_len c r)
  have HT : Hid (∀ c, threeS c r = (117 :: c :: letS (r / 64 &&& 7)) ++ 44 :: ((103 :: c :: letS (r / 8 &&& 7)) ++ 44 :: (111 :: c :: letS (r &&& 7)))) := Lib.hid (fun _ => rfl)
  have HR := Lib.hid (And.intro hr hrr)
  clear hr hrr hna hra hn2 hr2
  generalize r / 64 &&& 7 = u at *
  generalize r / 8 &&& 7 = g at *
  generalize r &&& 7 = q at *
  generalize n ||| r = x1 at *
  generalize n &&& (full - r) = x2 at *
  have HU := Lib.hid (letters_any u hu8)
  have HG := Lib.hid (letters_any g hg8)
  have HO := Lib.hid (letters_any q ho8)
  have H8 : Hid ((letS u).length ≤ 3 ∧ (letS g).length ≤ 3 ∧ (letS q).length ≤ 3) := Lib.hid ⟨(letS_44 ⟨u, hu8⟩).2, (letS_44 ⟨g, hg8⟩).2, (letS_44 ⟨q, ho8⟩).2⟩
  clear hu8 hg8 ho8
  go_enter Tryd.func8, Tryd.ntmps8
  go_wp2_with fail
  refine (shown_any _ hM).mono ?_
  rintro e w1 ⟨rfl, hb⟩
  have HB := Lib.hid hb
  have HE := Lib.hid (hE.below hb)
  have HM := Lib.hid (hM.below hb)
  clear hb hE hM
  go_wp2_with fail
  refine (HU.out _).mono ?_
  rintro e w2 ⟨su, hsu, rfl, rfl⟩
  go_wp2_with fail
  refine (HG.out _).mono ?_
  rintro e w2 ⟨sg, hsg, rfl, rfl⟩
  go_wp2_with fail
  refine (HO.out _).mono ?_
  rintro e w2 ⟨so, hso, rfl, rfl⟩
  have HSZ : Hid (su.size ≤ 3 ∧ sg.size ≤ 3 ∧ so.size ≤ 3) := Lib.hid ⟨by rw [← size_list, hsu]; exact H8.out.1, by rw [← size_list, hsg]; exact H8.out.2.1, by rw [← size_list, hso]; exact H8.out.2.2⟩
  have HTX : Hid (∀ (c : UInt8) (A B C : ByteArray), A.data.toList = [117, c] → B.data.toList = [44, 103, c] → C.data.toList = [44, 111, c] → (A ++ su ++ B ++ sg ++ C ++ so).data.toList = threeS c r ∧ (A ++ su ++ B ++ sg ++ C ++ so).size ≤ 1000000000) := Lib.hid (fun c A B C hA hB hC => by
    have h1 : (A ++ su ++ B ++ sg ++ C ++ so).data.toList = threeS c r := by
      simp only [ByteArray.data_append, Array.toList_append, hA, hB, hC, hsu, hsg, hso, HT.out]
      simp
    refine ⟨h1, ?_⟩
    have h2 : (A ++ su ++ B ++ sg ++ C ++ so).data.toList.length = (A ++ su ++ B ++ sg ++ C ++ so).size := size_list _
    rw [h1] at h2
    have := HL.out c
    omega)
  have z1 : ¬ 9223372036854775807 < 2 + su.size := by have := HSZ.out; omega
  have z2 : ¬ 9223372036854775807 < 2 + su.size + 3 := by have := HSZ.out; omega
  have z3 : ¬ 9223372036854775807 < 2 + su.size + 3 + sg.size := by have := HSZ.out; omega
  have z4 : ¬ 9223372036854775807 < 2 + su.size + 3 + sg.size + 3 := by have := HSZ.out; omega
  have z5 : ¬ 9223372036854775807 < 2 + su.size + 3 + sg.size + 3 + so.size := by have := HSZ.out; omega
  clear hsu hsg hso HU HG HO HT HL j6 j3 j0
  go_wp2_with fail
  obtain ⟨h1, h2⟩ := HTX.out 61 ⟨#[117, 61]⟩ ⟨#[44, 103, 61]⟩ ⟨#[44, 111, 61]⟩ rfl rfl rfl
  refine (change_is _ n dir _ h2 HM.out HE.out HR.out.1 (by rw [h1]; exact HX.out.1)).mono ?_
  rintro e wn ⟨rfl, hb⟩
  replace HB := Lib.hid (HB.out.trans (hb.mono HB.out.size))
  replace HE := Lib.hid (HE.out.below hb)
  replace HM := Lib.hid (HM.out.below hb)
  clear hb h1 h2
  go_wp2_with fail
  obtain ⟨h1, h2⟩ := HTX.out 43 ⟨#[117, 43]⟩ ⟨#[44, 103, 43]⟩ ⟨#[44, 111, 43]⟩ rfl rfl rfl
  refine (change_is _ n dir _ h2 HM.out HE.out HR.out.1 (by rw [h1]; exact HX.out.2.1)).mono ?_
  rintro e wn ⟨rfl, hb⟩
  replace HB := Lib.hid (HB.out.trans (hb.mono HB.out.size))
  replace HE := Lib.hid (HE.out.below hb)
  replace HM := Lib.hid (HM.out.below hb)
  clear hb h1 h2
  go_wp2_with fail
  obtain ⟨h1, h2⟩ := HTX.out 45 ⟨#[117, 45]⟩ ⟨#[44, 103, 45]⟩ ⟨#[44, 111, 45]⟩ rfl rfl rfl
  refine (change_is _ n dir _ h2 HM.out HE.out HR.out.1 (by rw [h1]; exact HX.out.2.2.1)).mono ?_
  rintro e wn ⟨rfl, hb⟩
  replace HB := Lib.hid (HB.out.trans (hb.mono HB.out.size))
  replace HE := Lib.hid (HE.out.below hb)
  replace HM := Lib.hid (HM.out.below hb)
  clear hb h1 h2
  go_wp2_with fail
  obtain ⟨h1, h2⟩ := HTX.out 61 ⟨#[117, 61]⟩ ⟨#[44, 103, 61]⟩ ⟨#[44, 111, 61]⟩ rfl rfl rfl
  refine (change_is _ r dir _ h2 HM.out HE.out HR.out.2 (by rw [h1]; exact HX.out.2.2.2)).mono ?_
  rintro e wn ⟨rfl, hb⟩
  replace HB := Lib.hid (HB.out.trans (hb.mono HB.out.size))
  replace HE := Lib.hid (HE.out.below hb)
  replace HM := Lib.hid (HM.out.below hb)
  clear hb h1 h2
  clear z1 z2 z3 z4 z5
  go_wp2
  go_ret
  exact ⟨rfl, HB.out⟩
end Go.Proofs.YtpoicdpfjmeehaaDoor
