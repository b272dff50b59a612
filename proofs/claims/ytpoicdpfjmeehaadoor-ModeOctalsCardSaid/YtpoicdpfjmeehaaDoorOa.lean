/- ModeOctals: a mode's digits tell it. -/
import Derived.Test.YtpoicdpfjmeehaaDoorSb
namespace Go.Proofs.YtpoicdpfjmeehaaDoor
open Go.RowKit

def dc (n k : Nat) : UInt8 := UInt8.ofNat (48 + (n / k &&& 7))
def digs (n : Nat) : Bytes := [dc n 4096, dc n 512, dc n 64, dc n 8, dc n 1]
theorem take_get {l : Bytes} {j : Nat} {c : UInt8} (h : l[j]? = some c) : l.take j ++ [c] = l.take (j + 1) := by
  obtain ⟨h1, h2⟩ := List.getElem?_eq_some_iff.1 h
  rw [List.take_succ_eq_append_getElem h1, h2]
theorem digs_get0 (n : Nat) : (digs n)[0]? = some (dc n 4096) := rfl
theorem digs_get1 (n : Nat) : (digs n)[1]? = some (dc n 512) := rfl
theorem digs_get2 (n : Nat) : (digs n)[2]? = some (dc n 64) := rfl
theorem digs_get3 (n : Nat) : (digs n)[3]? = some (dc n 8) := rfl
theorem digs_get4 (n : Nat) : (digs n)[4]? = some (dc n 1) := rfl
theorem digs_len (n : Nat) : (digs n).length = 5 := rfl
theorem d_facts (d : Nat) (h : d < 8) : wrap64 (48 + (d : Int)) = 48 + d ∧ (48 + (d : Int)) % 256 = 48 + d :=
  ⟨IntWalk.wrap64_in _ ⟨by omega, by omega⟩, Int.emod_eq_of_lt (by omega) (by omega)⟩
theorem and7_mod (x : Nat) : x &&& 7 = x % 8 := Nat.and_two_pow_sub_one_eq_mod (n := 3) x
theorem dc_nat (n k : Nat) : (dc n k).toNat = 48 + (n / k) % 8 := by
  unfold dc
  rw [and7_mod, UInt8.toNat_ofNat']
  omega
theorem dc_oct (n k : Nat) : isOct (dc n k) = true := by
  have := dc_nat n k
  unfold isOct
  simp
  omega
theorem dc_zero {n k : Nat} (h : dc n k = 48) : (n / k) % 8 = 0 := by
  have h1 := dc_nat n k
  rw [h] at h1
  have h2 : (48 : UInt8).toNat = 48 := rfl
  omega
theorem octS_of {l : Bytes} {n : Nat} (h0 : l ≠ []) (h5 : l.length ≤ 5) (ha : l.all isOct = true) (hr : readO l = n) (hb : rightB (n : Int) = true) : octS l = some n := by
  unfold octS
  rw [hr, if_pos ⟨h0, h5, ha, hb⟩]
theorem oct_digs {n p : Nat} (hn : n ≤ 3071) (hb : rightB (n : Int) = true) (hp : p ≤ 3) (hz : ∀ j, j < p → (digs n)[j]? = some 48) : octS ((digs n).drop p) = some n := by
  have e1 := dc_nat n 4096
  have e2 := dc_nat n 512
  have e3 := dc_nat n 64
  have e4 := dc_nat n 8
  have e5 := dc_nat n 1
  have o1 := dc_oct n 4096
  have o2 := dc_oct n 512
  have o3 := dc_oct n 64
  have o4 := dc_oct n 8
  have o5 := dc_oct n 1
  have z1 : 0 < p → (n / 4096) % 8 = 0 := fun h => dc_zero (by have := hz 0 h; simpa [digs] using this)
  have z2 : 1 < p → (n / 512) % 8 = 0 := fun h => dc_zero (by have := hz 1 h; simpa [digs] using this)
  have z3 : 2 < p → (n / 64) % 8 = 0 := fun h => dc_zero (by have := hz 2 h; simpa [digs] using this)
  obtain rfl | rfl | rfl | rfl : p = 0 ∨ p = 1 ∨ p = 2 ∨ p = 3 := by omega
  · refine octS_of (by simp [digs]) (by simp [digs]) (by simp [digs, o1, o2, o3, o4, o5]) ?_ hb
    simp only [digs, List.drop_zero, readO, List.foldl_cons, List.foldl_nil, e1, e2, e3, e4, e5]
    omega
  · have z1 := z1 (by omega)
    refine octS_of (by simp [digs]) (by simp [digs]) (by simp [digs, o1, o2, o3, o4, o5]) ?_ hb
    simp only [digs, List.drop_succ_cons, List.drop_zero, readO, List.foldl_cons, List.foldl_nil, e1, e2, e3, e4, e5]
    omega
  · have z1 := z1 (by omega)
    have z2 := z2 (by omega)
    refine octS_of (by simp [digs]) (by simp [digs]) (by simp [digs, o1, o2, o3, o4, o5]) ?_ hb
    simp only [digs, List.drop_succ_cons, List.drop_zero, readO, List.foldl_cons, List.foldl_nil, e1, e2, e3, e4, e5]
    omega
  · have z1 := z1 (by omega)
    have z2 := z2 (by omega)
    have z3 := z3 (by omega)
    refine octS_of (by simp [digs]) (by simp [digs]) (by simp [digs, o1, o2, o3, o4, o5]) ?_ hb
    simp only [digs, List.drop_succ_cons, List.drop_zero, readO, List.foldl_cons, List.foldl_nil, e1, e2, e3, e4, e5]
    omega
theorem and_three (m : Int) : ∃ n : Nat, bits .and .i64 m 3 = (n : Int) ∧ n ≤ 3 := by
  have h2 : (BitVec.ofInt 64 (3 : Int)).toNat = 3 := by decide
  have h0 : (BitVec.ofInt 64 m &&& BitVec.ofInt 64 (3 : Int)).toNat = (BitVec.ofInt 64 m).toNat &&& 3 := by rw [BitVec.toNat_and, h2]
  have hle : (BitVec.ofInt 64 m).toNat &&& 3 ≤ 3 := Nat.and_le_right
  refine ⟨(BitVec.ofInt 64 m).toNat &&& 3, ?_, hle⟩
  have h3 : bits .and .i64 m 3 = IntKind.i64.wrap ((BitVec.ofInt 64 m &&& BitVec.ofInt 64 (3 : Int)).toNat : Int) := rfl
  rw [h3, h0, IntKind.wrap_i64]
  omega

set_option maxHeartbeats 4000000 in
set_option maxRecDepth 100000 in
/-- ModeOctals. -/
theorem octals_law (m noughts was : Int) (w : World) (hM : HasM w) (hE : HasE w) :
    Calls Tryd.prog 9 #[.int .i64 m, .int .i64 noughts, .int .i64 was] w fun e w' => e = .returned (.bool true) ∧ Below w.heap.size w w' := by
  obtain ⟨n, hn, hn2, hr, hna⟩ := and_mode2 m
  obtain ⟨b, hb0, hb2, hbr, hba⟩ := and_mode2 was
  obtain ⟨k, hk0, hk3⟩ := and_three noughts
  have HR := Lib.hid (And.intro hr (And.intro hbr (And.intro hn2 hk3)))
  have j12 : bits .and .i64 ((n : Int) / 4096) 7 = ((n / 4096 &&& 7 : Nat) : Int) := sh_nat (k := 4096) (by unfold big; omega)
  have j9 : bits .and .i64 ((n : Int) / 512) 7 = ((n / 512 &&& 7 : Nat) : Int) := sh_nat (k := 512) (by unfold big; omega)
  have j6 : bits .and .i64 ((n : Int) / 64) 7 = ((n / 64 &&& 7 : Nat) : Int) := sh_nat (k := 64) (by unfold big; omega)
  have j3 : bits .and .i64 ((n : Int) / 8) 7 = ((n / 8 &&& 7 : Nat) : Int) := sh_nat (k := 8) (by unfold big; omega)
  have j0 : bits .and .i64 (n : Int) 7 = ((n / 1 &&& 7 : Nat) : Int) := by rw [Nat.div_one]; exact and_nat (b := 7) (by unfold big; omega) (by decide)
  have HJ := Lib.hid (And.intro j12 (And.intro j9 (And.intro j6 (And.intro j3 j0))))
  clear hr hbr hn2 hk3 hna hba hb2 j12 j9 j6 j3 j0
  go_enter Tryd.func9, Tryd.ntmps9
  go_wp2_with fail
  refine (shown_any _ hM).mono ?_
  rintro e w1 ⟨rfl, hb⟩
  have HB := Lib.hid hb
  have HE := Lib.hid (hE.below hb)
  have HM := Lib.hid (hM.below hb)
  clear hb hE hM
  go_upto_region 6 with fail
  go_loopw [8, 9] (fun v8 v9 wr => ∃ (j : Nat) (z : Int) (S : ByteArray), j ≤ 5 ∧ v9 = .int .i64 z ∧ v8 = .string S ∧ Hid (z = 12 - 3 * (j : Int) ∧ S.data.toList = (digs n).take j ∧ Below w.heap.size w wr ∧ HasE wr ∧ HasM wr)) (fun v8 v9 _ => (intOf v9 + 3).toNat)
  case atStart => exact ⟨0, 12, ⟨#[]⟩, by omega, rfl, rfl, Lib.hid ⟨rfl, rfl, HB.out, HE.out, HM.out⟩⟩
  case round =>
    obtain ⟨j, z, S, hj, rfl, rfl, HH⟩ := hrel
    by_cases h5 : j < 5
    · have hSz : S.size = j := by rw [← size_list, HH.out.2.1, List.length_take, digs_len]; omega
      have hcv : ∀ d : Nat, d < 8 → (convert 36 9 (.slice (some ⟨wr.heap.size, 0, none⟩) 1 1)).run Tryd.prog (wr.alloc (Obj.cells #[.int .u8 (48 + (d : Int))] 5)) = .ok (.string ⟨#[UInt8.ofNat (48 + d)]⟩) (wr.alloc (Obj.cells #[.int .u8 (48 + (d : Int))] 5)) := fun d hd => by
        have hcd : ((UInt8.ofNat (48 + d)).toNat : Int) = 48 + (d : Int) := by rw [UInt8.toNat_ofNat']; omega
        rw [← hcd]
        have h := run_convert_bytes_back (P := Tryd.prog) (wr.alloc (Obj.cells #[.int .u8 ((UInt8.ofNat (48 + d)).toNat : Int)] 5)) 36 9 5 ⟨wr.heap.size, 0, none⟩ 1 [UInt8.ofNat (48 + d)] Tryd.underlying36 Tryd.underlying5 Tryd.underlying9 (fun j hj => by
          obtain rfl : j = 0 := by simp at hj; exact hj
          exact cell_one_new wr (.int .u8 ((UInt8.ofNat (48 + d)).toNat : Int)) 5 0 _ rfl)
        exact h
      have HCV := Lib.hid hcv
      clear hcv
      obtain rfl | rfl | rfl | rfl | rfl : j = 0 ∨ j = 1 ∨ j = 2 ∨ j = 3 ∨ j = 4 := by omega
      · obtain rfl : z = 12 := by rw [HH.out.1]; rfl
        have f := HJ.out.1
        have hd8 := and7 (n / 4096)
        have hc := HCV.out (n / 4096 &&& 7) hd8
        rw [show UInt8.ofNat (48 + (n / 4096 &&& 7)) = dc n 4096 from rfl] at hc
        have HN : Hid ((S ++ ⟨#[dc n 4096]⟩).data.toList = (digs n).take 1) := Lib.hid (by
          rw [ByteArray.data_append, Array.toList_append, HH.out.2.1]; exact take_get (digs_get0 n))
        generalize dc n 4096 = c at hc HN
        obtain ⟨d, hd⟩ : ∃ d, n / 4096 &&& 7 = d := ⟨_, rfl⟩
        rw [hd] at f hd8 hc
        obtain ⟨w1, w2⟩ := d_facts d hd8
        have zs : ¬ 9223372036854775807 < S.size + 1 := by omega
        clear hd hd8
        go_wp2
        go_roundw
        case rel => exact ⟨1, 9, _, by omega, rfl, rfl, Lib.hid ⟨rfl, HN.out, HH.out.2.2.1.alloc HH.out.2.2.1.size _, HH.out.2.2.2.1.below ((Below.refl _ _).alloc (Nat.le_refl _) _), HH.out.2.2.2.2.below ((Below.refl _ _).alloc (Nat.le_refl _) _)⟩⟩
        case measure => simp [intOf]
      · obtain rfl : z = 9 := by rw [HH.out.1]; rfl
        have f := HJ.out.2.1
        have hd8 := and7 (n / 512)
        have hc := HCV.out (n / 512 &&& 7) hd8
        rw [show UInt8.ofNat (48 + (n / 512 &&& 7)) = dc n 512 from rfl] at hc
        have HN : Hid ((S ++ ⟨#[dc n 512]⟩).data.toList = (digs n).take 2) := Lib.hid (by
          rw [ByteArray.data_append, Array.toList_append, HH.out.2.1]; exact take_get (digs_get1 n))
        generalize dc n 512 = c at hc HN
        obtain ⟨d, hd⟩ : ∃ d, n / 512 &&& 7 = d := ⟨_, rfl⟩
        rw [hd] at f hd8 hc
        obtain ⟨w1, w2⟩ := d_facts d hd8
        have zs : ¬ 9223372036854775807 < S.size + 1 := by omega
        clear hd hd8
        go_wp2
        go_roundw
        case rel => exact ⟨2, 6, _, by omega, rfl, rfl, Lib.hid ⟨rfl, HN.out, HH.out.2.2.1.alloc HH.out.2.2.1.size _, HH.out.2.2.2.1.below ((Below.refl _ _).alloc (Nat.le_refl _) _), HH.out.2.2.2.2.below ((Below.refl _ _).alloc (Nat.le_refl _) _)⟩⟩
        case measure => simp [intOf]
      · obtain rfl : z = 6 := by rw [HH.out.1]; rfl
        have f := HJ.out.2.2.1
        have hd8 := and7 (n / 64)
        have hc := HCV.out (n / 64 &&& 7) hd8
        rw [show UInt8.ofNat (48 + (n / 64 &&& 7)) = dc n 64 from rfl] at hc
        have HN : Hid ((S ++ ⟨#[dc n 64]⟩).data.toList = (digs n).take 3) := Lib.hid (by
          rw [ByteArray.data_append, Array.toList_append, HH.out.2.1]; exact take_get (digs_get2 n))
        generalize dc n 64 = c at hc HN
        obtain ⟨d, hd⟩ : ∃ d, n / 64 &&& 7 = d := ⟨_, rfl⟩
        rw [hd] at f hd8 hc
        obtain ⟨w1, w2⟩ := d_facts d hd8
        have zs : ¬ 9223372036854775807 < S.size + 1 := by omega
        clear hd hd8
        go_wp2
        go_roundw
        case rel => exact ⟨3, 3, _, by omega, rfl, rfl, Lib.hid ⟨rfl, HN.out, HH.out.2.2.1.alloc HH.out.2.2.1.size _, HH.out.2.2.2.1.below ((Below.refl _ _).alloc (Nat.le_refl _) _), HH.out.2.2.2.2.below ((Below.refl _ _).alloc (Nat.le_refl _) _)⟩⟩
        case measure => simp [intOf]
      · obtain rfl : z = 3 := by rw [HH.out.1]; rfl
        have f := HJ.out.2.2.2.1
        have hd8 := and7 (n / 8)
        have hc := HCV.out (n / 8 &&& 7) hd8
        rw [show UInt8.ofNat (48 + (n / 8 &&& 7)) = dc n 8 from rfl] at hc
        have HN : Hid ((S ++ ⟨#[dc n 8]⟩).data.toList = (digs n).take 4) := Lib.hid (by
          rw [ByteArray.data_append, Array.toList_append, HH.out.2.1]; exact take_get (digs_get3 n))
        generalize dc n 8 = c at hc HN
        obtain ⟨d, hd⟩ : ∃ d, n / 8 &&& 7 = d := ⟨_, rfl⟩
        rw [hd] at f hd8 hc
        obtain ⟨w1, w2⟩ := d_facts d hd8
        have zs : ¬ 9223372036854775807 < S.size + 1 := by omega
        clear hd hd8
        go_wp2
        go_roundw
        case rel => exact ⟨4, 0, _, by omega, rfl, rfl, Lib.hid ⟨rfl, HN.out, HH.out.2.2.1.alloc HH.out.2.2.1.size _, HH.out.2.2.2.1.below ((Below.refl _ _).alloc (Nat.le_refl _) _), HH.out.2.2.2.2.below ((Below.refl _ _).alloc (Nat.le_refl _) _)⟩⟩
        case measure => simp [intOf]
      · obtain rfl : z = 0 := by rw [HH.out.1]; rfl
        have f := HJ.out.2.2.2.2
        have hd8 := and7 (n / 1)
        have hc := HCV.out (n / 1 &&& 7) hd8
        rw [show UInt8.ofNat (48 + (n / 1 &&& 7)) = dc n 1 from rfl] at hc
        have HN : Hid ((S ++ ⟨#[dc n 1]⟩).data.toList = (digs n).take 5) := Lib.hid (by
          rw [ByteArray.data_append, Array.toList_append, HH.out.2.1]; exact take_get (digs_get4 n))
        generalize dc n 1 = c at hc HN
        obtain ⟨d, hd⟩ : ∃ d, n / 1 &&& 7 = d := ⟨_, rfl⟩
        rw [hd] at f hd8 hc
        obtain ⟨w1, w2⟩ := d_facts d hd8
        have zs : ¬ 9223372036854775807 < S.size + 1 := by omega
        clear hd hd8
        go_wp2
        go_roundw
        case rel => exact ⟨5, -3, _, by omega, rfl, rfl, Lib.hid ⟨rfl, HN.out, HH.out.2.2.1.alloc HH.out.2.2.1.size _, HH.out.2.2.2.1.below ((Below.refl _ _).alloc (Nat.le_refl _) _), HH.out.2.2.2.2.below ((Below.refl _ _).alloc (Nat.le_refl _) _)⟩⟩
        case measure => simp [intOf]
    · obtain rfl : j = 5 := by omega
      obtain rfl : z = -3 := by rw [HH.out.1]; rfl
      have HB5 := Lib.hid HH.out.2.2.1
      have HE5 := Lib.hid HH.out.2.2.2.1
      have HM5 := Lib.hid HH.out.2.2.2.2
      have HS5 : Hid (S.data.toList = digs n) := Lib.hid HH.out.2.1
      clear HH HB HE HM HJ
      go_upto_region 10 with fail
      go_loopw [8, 10] (fun v8 v10 wx => ∃ (p q : Nat) (S : ByteArray), p + q = k ∧ v10 = .int .i64 q ∧ v8 = .string S ∧ wx = wr ∧ Hid (S.data.toList = (digs n).drop p ∧ ∀ j, j < p → (digs n)[j]? = some 48)) (fun v8 v10 _ => (intOf v10).toNat)
      case atStart => exact ⟨0, k, S, by omega, rfl, rfl, rfl, Lib.hid ⟨HS5.out, fun j hj => absurd hj (Nat.not_lt_zero j)⟩⟩
      case round =>
        obtain ⟨p, q, S, hpq, rfl, rfl, rfl, HH⟩ := hrel
        have hp3 : p ≤ 3 := by have := HR.out.2.2.2; omega
        have hSz : S.size = 5 - p := by rw [← size_list, HH.out.1, List.length_drop, digs_len]
        have hS0 : 0 < S.size := by omega
        have hget : ∀ h : 0 < S.size, some S[0] = (digs n)[p]? := fun h => by
          have h1 := get_data S 0 h
          rw [HH.out.1, List.getElem?_drop] at h1
          exact h1.symm
        by_cases hq : q = 0
        · subst hq
          have HX : Hid (octS S.data.toList = some n) := Lib.hid (by rw [HH.out.1]; exact oct_digs HR.out.2.2.1 HR.out.1 hp3 HH.out.2)
          have HCX : Hid (changeS false b S.data.toList = some n) := Lib.hid (by unfold changeS; rw [HX.out])
          have hsz : S.size ≤ 1000000000 := by omega
          have hsl : 5 < (⟨#[48, 48, 48, 48, 48]⟩ ++ S : ByteArray).size := by rw [ByteArray.size_append]; have : (⟨#[48, 48, 48, 48, 48]⟩ : ByteArray).size = 5 := rfl; omega
          have zs : ¬ 9223372036854775807 < 5 + S.size := by omega
          have HSL := Lib.hid hsl
          have HSZ := Lib.hid hsz
          clear hget hpq hp3 hSz hsl hsz HH
          go_wp2_with fail
          refine (octal_all S _ HE5.out).mono ?_
          rintro e w3 ⟨he, hb3⟩
          rw [HX.out] at he
          replace he : e = .returned (.tuple #[.int .i64 n, .bool true]) := he
          subst he
          have HB6 := Lib.hid (HB5.out.trans (hb3.mono HB5.out.size))
          have HE6 := Lib.hid (HE5.out.below hb3)
          have HM6 := Lib.hid (HM5.out.below hb3)
          clear hb3 HE5 HM5 HB5
          go_wp2_with fail
          refine (change_is S b false _ HSZ.out HM6.out HE6.out HR.out.2.1 HCX.out).mono ?_
          rintro e w4 ⟨rfl, hb4⟩
          have HB7 := Lib.hid (HB6.out.trans (hb4.mono HB6.out.size))
          clear hb4
          go_wp2_with fail
          refine (octal_long _ _ HSL.out).mono ?_
          rintro e w5 ⟨rfl, rfl⟩
          go_wp2
          go_ret
          exact ⟨rfl, HB7.out⟩
        · have hq1 : (0 : Int) < q := by omega
          by_cases hc : S[0] = 48
          · have hc1 : (S[0].toNat : Int) = 48 := by rw [hc]; rfl
            have HN : Hid ((S.extract 1 S.size).data.toList = (digs n).drop (p + 1) ∧ ∀ j, j < p + 1 → (digs n)[j]? = some 48) := Lib.hid ⟨by
              rw [ex_data, List.take_of_length_le (by rw [size_list]; exact Nat.le_refl _), HH.out.1, List.drop_drop], fun j hj => by
              rcases Nat.lt_or_ge j p with h | h
              · exact HH.out.2 j h
              · obtain rfl : j = p := by omega
                rw [← hget hS0, hc]⟩
            have hS1 : 1 ≤ S.size := by omega
            have hS2 : (1 : Int) ≤ S.size := by omega
            have hw : wrap64 ((q : Int) - 1) = (q : Int) - 1 := IntWalk.wrap64_in _ ⟨by omega, by have := HR.out.2.2.2; omega⟩
            have HQ : Hid (0 < q) := Lib.hid (by omega)
            clear hc hget hSz
            go_wp2
            go_roundw
            case rel => exact ⟨p + 1, q - 1, _, by have := HQ.out; omega, by have := HQ.out; go_num, rfl, trivial, HN⟩
            case measure => have := HQ.out; simp [intOf]; omega
          · have hc1 : ¬ (S[0].toNat : Int) = 48 := fun h => hc (by apply UInt8.toNat_inj.1; show S[0].toNat = 48; omega)
            clear hc
            have HX : Hid (octS S.data.toList = some n) := Lib.hid (by rw [HH.out.1]; exact oct_digs HR.out.2.2.1 HR.out.1 hp3 HH.out.2)
            have HCX : Hid (changeS false b S.data.toList = some n) := Lib.hid (by unfold changeS; rw [HX.out])
            have hsz : S.size ≤ 1000000000 := by omega
            have hsl : 5 < (⟨#[48, 48, 48, 48, 48]⟩ ++ S : ByteArray).size := by rw [ByteArray.size_append]; have : (⟨#[48, 48, 48, 48, 48]⟩ : ByteArray).size = 5 := rfl; omega
            have zs : ¬ 9223372036854775807 < 5 + S.size := by omega
            have HSL := Lib.hid hsl
            have HSZ := Lib.hid hsz
            clear hget hpq hp3 hSz hsl hsz HH
            go_wp2_with fail
            refine (octal_all S _ HE5.out).mono ?_
            rintro e w3 ⟨he, hb3⟩
            rw [HX.out] at he
            replace he : e = .returned (.tuple #[.int .i64 n, .bool true]) := he
            subst he
            have HB6 := Lib.hid (HB5.out.trans (hb3.mono HB5.out.size))
            have HE6 := Lib.hid (HE5.out.below hb3)
            have HM6 := Lib.hid (HM5.out.below hb3)
            clear hb3 HE5 HM5 HB5
            go_wp2_with fail
            refine (change_is S b false _ HSZ.out HM6.out HE6.out HR.out.2.1 HCX.out).mono ?_
            rintro e w4 ⟨rfl, hb4⟩
            have HB7 := Lib.hid (HB6.out.trans (hb4.mono HB6.out.size))
            clear hb4
            go_wp2_with fail
            refine (octal_long _ _ HSL.out).mono ?_
            rintro e w5 ⟨rfl, rfl⟩
            go_wp2
            go_ret
            exact ⟨rfl, HB7.out⟩
end Go.Proofs.YtpoicdpfjmeehaaDoor
