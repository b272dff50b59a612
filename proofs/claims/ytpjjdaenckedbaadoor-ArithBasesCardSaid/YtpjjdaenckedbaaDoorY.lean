/- The law of bases. -/
import Derived.Test.YtpjjdaenckedbaaDoorV
namespace Go.Proofs.YtpjjdaenckedbaaDoor
open Go.RowKit

theorem and_nat {a b : Nat} (ha : a < 9223372036854775808) (hb : b < 9223372036854775808) : bits .and .i64 (a : Int) (b : Int) = ((a &&& b : Nat) : Int) :=
  (bits_nat .i64 63 (by decide) (fun n h0 h1 => by rw [IntKind.wrap_i64]; omega) a b (by simpa using ha) (by simpa using hb)).1
theorem dig_8 {N : Nat} (hN : N < 9223372036854775808) (k : Nat) : bits .and .i64 ((N : Int) / 2 ^ (3 * k)) 7 = ((N / 8 ^ k % 8 : Nat) : Int) := by
  have e : ((N : Int) / 2 ^ (3 * k)) = ((N / 2 ^ (3 * k) : Nat) : Int) := by simp
  have h := and_nat (a := N / 2 ^ (3 * k)) (b := 7) (Nat.lt_of_le_of_lt (Nat.div_le_self _ _) hN) (by decide)
  rw [e]
  have h2 : N / 2 ^ (3 * k) &&& 7 = N / 8 ^ k % 8 := by
    rw [show (7 : Nat) = 2 ^ 3 - 1 from rfl, Nat.and_two_pow_sub_one_eq_mod, Nat.pow_mul]
  rw [← h2]; exact h
theorem dig_16 {N : Nat} (hN : N < 9223372036854775808) (k : Nat) : bits .and .i64 ((N : Int) / 2 ^ (4 * k)) 15 = ((N / 16 ^ k % 16 : Nat) : Int) := by
  have e : ((N : Int) / 2 ^ (4 * k)) = ((N / 2 ^ (4 * k) : Nat) : Int) := by simp
  have h := and_nat (a := N / 2 ^ (4 * k)) (b := 15) (Nat.lt_of_le_of_lt (Nat.div_le_self _ _) hN) (by decide)
  rw [e]
  have h2 : N / 2 ^ (4 * k) &&& 15 = N / 16 ^ k % 16 := by
    rw [show (15 : Nat) = 2 ^ 4 - 1 from rfl, Nat.and_two_pow_sub_one_eq_mod, Nat.pow_mul]
  rw [← h2]; exact h
theorem conv_c (W : World) (c : UInt8) : (convert 34 9 (.slice (some ⟨W.heap.size, 0, none⟩) 1 1)).run Tryd.prog (W.alloc (Obj.cells #[.int .u8 (c.toNat : Int)] 5)) = .ok (.string ⟨#[c]⟩) (W.alloc (Obj.cells #[.int .u8 (c.toNat : Int)] 5)) :=
  run_convert_bytes_back (P := Tryd.prog) (W.alloc (Obj.cells #[.int .u8 (c.toNat : Int)] 5)) 34 9 5 ⟨W.heap.size, 0, none⟩ 1 [c] Tryd.underlying34 Tryd.underlying5 Tryd.underlying9 (fun j hj => by
    obtain rfl : j = 0 := by simp at hj; exact hj
    exact cell_one_new W (.int .u8 (c.toNat : Int)) 5 0 _ rfl)
def hexB : ByteArray := ⟨#[48,49,50,51,52,53,54,55,56,57,97,98,99,100,69,70]⟩
theorem hexB_at (d : Nat) (h : d < 16) : hexB[d]'h = hch d := by
  obtain rfl | rfl | rfl | rfl | rfl | rfl | rfl | rfl | rfl | rfl | rfl | rfl | rfl | rfl | rfl | rfl : d = 0 ∨ d = 1 ∨ d = 2 ∨ d = 3 ∨ d = 4 ∨ d = 5 ∨ d = 6 ∨ d = 7 ∨ d = 8 ∨ d = 9 ∨ d = 10 ∨ d = 11 ∨ d = 12 ∨ d = 13 ∨ d = 14 ∨ d = 15 := by omega
  all_goals rfl
theorem one_B (c : UInt8) (l : Bytes) : (⟨#[c]⟩ : ByteArray) ++ B l = B (c :: l) := B_app [c] l
set_option maxHeartbeats 4000000 in
set_option maxRecDepth 100000 in
theorem bases_pos (N : Nat) (hN : N < 9223372036854775808) (n : Int) (hn : (0 ≤ n ∧ n = N) ∨ (n < 0 ∧ -(n + 1) = N)) (w : World) (hP : HasP w) : Calls Tryd.prog 7 #[.int .i64 n] w fun e w' => e = .returned (.bool true) ∧ Below w.heap.size w w' := by
  have HN := Lib.hid hN
  have HI : Hid (IsI (N : Int)) := Lib.hid (by unfold IsI; omega)
  have HP := Lib.hid hP
  have HSH := Lib.hid (shown_any w hP)
  clear hP
  clear hN
  go_enter Tryd.func7, Tryd.ntmps7
  go_wp2_with fail
  refine HSH.out.mono ?_
  rintro e w1 ⟨rfl, hb⟩
  have HB1 := Lib.hid hb
  clear hb
  go_upto_if 17 with fail
  go_cut [0] from 16 to 21 (fun v0 wx => v0 = .int .i64 N ∧ wx = w1)
  case first =>
    rcases hn with ⟨h0, hn⟩ | ⟨h0, hn⟩
    · have h1 : ¬ n < 0 := by omega
      subst hn
      go_wp2
      go_meet
      exact ⟨rfl, rfl⟩
    · have hlo : -9223372036854775808 ≤ n := by have := HN.out; omega
      have hw : -1 - n = N := by omega
      have hw2 : -(n + 1) = N := by omega
      clear hn
      go_wp2
      go_meet
      exact ⟨rfl, rfl⟩
  case rest =>
    obtain ⟨rfl, hwx⟩ := hcut
    subst hwx
    clear hn
    go_wp2_with fail
    refine (digits_any _ HI.out _).mono ?_
    rintro e w2 ⟨rfl, hb⟩
    have HB2 := Lib.hid (HB1.out.trans (hb.mono HB1.out.size))
    clear hb
    go_upto_region 8 with fail
    go_loopw [5, 7] (fun v5 v7 wr => ∃ k : Nat, k ≤ 22 ∧ v7 = .int .i64 k ∧ v5 = .string (B (digL 8 och N k)) ∧ Hid (Below w.heap.size w wr)) (fun v5 v7 _ => 22 - (intOf v7).toNat)
    case atStart => exact ⟨0, by omega, rfl, rfl, Lib.hid HB2.out⟩
    case round =>
      obtain ⟨k, hk, rfl, rfl, HH⟩ := hrel
      have hsz : (B (digL 8 och N k)).size = k := digL_len 8 och N k
      have zs : ¬ 9223372036854775807 < 1 + (B (digL 8 och N k)).size := by omega
      by_cases hlt : k < 22
      · have hlt1 : (k : Int) < 22 := by omega
        have hand := dig_8 HN.out k
        have hd8 : N / 8 ^ k % 8 < 8 := Nat.mod_lt _ (by decide)
        have HNX : Hid (B (digL 8 och N (k + 1)) = B (dch (N / 8 ^ k % 8) :: digL 8 och N k)) := Lib.hid rfl
        generalize N / 8 ^ k % 8 = d at *
        have hc := conv_new wr d (by omega)
        have w2 : (48 + (d : Int)) % 256 = 48 + d := Int.emod_eq_of_lt (by omega) (by omega)
        have hd1 : (d : Int) ≤ 7 := by omega
        clear hd8
        go_wp2
        go_roundw
        case rel => exact ⟨k + 1, by omega, by go_num, by rw [HNX.out, ← one_B], Lib.hid (HH.out.alloc HH.out.size _)⟩
        case measure => simp [intOf]; omega
      · have hlt1 : ¬ (k : Int) < 22 := by omega
        obtain rfl : k = 22 := by omega
        clear hk hlt hlt1 hsz zs
        go_upto_region 12 with fail
        go_loopw [6, 8] (fun v6 v8 wr => ∃ k : Nat, k ≤ 16 ∧ v8 = .int .i64 k ∧ v6 = .string (B (digL 16 hch N k)) ∧ Hid (Below w.heap.size w wr)) (fun v6 v8 _ => 16 - (intOf v8).toNat)
        case atStart => exact ⟨0, by omega, rfl, rfl, Lib.hid HH.out⟩
        case round =>
          obtain ⟨k, hk, rfl, rfl, HK⟩ := hrel
          have hsz : (B (digL 16 hch N k)).size = k := digL_len 16 hch N k
          have zs : ¬ 9223372036854775807 < 1 + (B (digL 16 hch N k)).size := by omega
          by_cases hlt : k < 16
          · have hlt1 : (k : Int) < 16 := by omega
            have hand := dig_16 HN.out k
            have hd8 : N / 16 ^ k % 16 < 16 := Nat.mod_lt _ (by decide)
            have HNX : Hid (B (digL 16 hch N (k + 1)) = B (hch (N / 16 ^ k % 16) :: digL 16 hch N k)) := Lib.hid rfl
            generalize N / 16 ^ k % 16 = d at *
            have hd1 : (d : Int) < 16 := by omega
            have hidx := hexB_at d hd8
            have hc := conv_c wr (hch d)
            unfold hexB at hidx
            go_wp2
            go_roundw
            case rel => exact ⟨k + 1, by omega, by go_num, by rw [HNX.out, ← one_B], Lib.hid (HK.out.alloc HK.out.size _)⟩
            case measure => simp [intOf]; omega
          · have hlt1 : ¬ (k : Int) < 16 := by omega
            obtain rfl : k = 16 := by omega
            clear hk hlt hlt1 hsz zs
            have hde : decI (N : Int) = decN N := by
              unfold decI
              rw [if_neg (by omega)]; rfl
            have hb1 : (B (decI (N : Int))).size ≤ 20 := decI_len HI.out
            have hb2 : (B (digL 8 och N 22)).size = 22 := digL_len 8 och N 22
            have hb3 : (B (digL 16 hch N 16)).size = 16 := digL_len 16 hch N 16
            have HCAT : Hid (B (decI N) ++ B [32,61,61,32,48] ++ B (digL 8 och N 22) ++ B [32,38,38,32] ++ B (decI N) ++ B [32,61,61,32,48,120] ++ B (digL 16 hch N 16) ++ B [32,38,38,32,48,88] ++ B (digL 16 hch N 16) ++ B [32,61,61,32,48] ++ B (digL 8 och N 22) = B (basesS N)) := Lib.hid (by
              rw [B_app, B_app, B_app, B_app, B_app, B_app, B_app, B_app, B_app, B_app, hde]
              congr 1
              unfold basesS octS hexS
              simp)
            have HV1 := Lib.hid (fun w hP => value_is (val_bases HN.out) (.slice none 0 0) w (inv_nil w) hP vs_nil (by simp))
            rw [← HCAT.out] at HV1
            have hten := val_ten HN.out
            rw [← hde] at hten
            have HV2 := Lib.hid (fun w hP => value_is hten (.slice none 0 0) w (inv_nil w) hP vs_nil (by simp))
            clear hten HCAT hde
            generalize decI (N : Int) = dn at *
            generalize digL 8 och N 22 = d8 at *
            generalize digL 16 hch N 16 = d16 at *
            go_wp2_with fail
            refine (HV1.out _ (HP.out.below HK.out)).mono ?_
            rintro e w4 ⟨a4, p4, rfl, hj, hb⟩
            have HB4 := Lib.hid (HK.out.trans (hb.mono HK.out.size))
            clear hj hb
            go_wp2_with fail
            refine (HV2.out _ (HP.out.below HB4.out)).mono ?_
            rintro e w5 ⟨a5, p5, rfl, hj, hb⟩
            have HB5 := Lib.hid (HB4.out.trans (hb.mono HB4.out.size))
            clear hj hb
            go_wp2
            go_ret
            exact ⟨rfl, HB5.out⟩
theorem bases_law (n : Int) (hn : IsI n) (w : World) (hP : HasP w) : Calls Tryd.prog 7 #[.int .i64 n] w fun e w' => e = .returned (.bool true) ∧ Below w.heap.size w w' := by
  unfold IsI at hn
  by_cases h : n < 0
  · exact bases_pos (-(n + 1)).toNat (by omega) n (.inr ⟨h, by omega⟩) w hP
  · exact bases_pos n.toNat (by omega) n (.inl ⟨by omega, by omega⟩) w hP
end Go.Proofs.YtpjjdaenckedbaaDoor
