import Derived.Test.YtinmdegmnepheaaFiles
namespace Go.Proofs.Ytinmdegmnepheaa
open Go.RowKit

theorem and_mask (x : Int) (m : Nat) (hm : m < 9223372036854775808) : ∃ n : Nat, bits .and .i64 x (m : Int) = (n : Int) ∧ n ≤ m := by
  have h2 : (BitVec.ofInt 64 (m : Int)).toNat = m := by
    rw [BitVec.ofInt_natCast, BitVec.toNat_ofNat]; exact Nat.mod_eq_of_lt (by omega)
  have hle : (BitVec.ofInt 64 x &&& BitVec.ofInt 64 (m : Int)).toNat ≤ m := by
    rw [BitVec.toNat_and, h2]; exact Nat.and_le_right
  refine ⟨(BitVec.ofInt 64 x &&& BitVec.ofInt 64 (m : Int)).toNat, ?_, hle⟩
  show IntKind.i64.wrap ((BitVec.ofInt 64 x &&& BitVec.ofInt 64 (m : Int)).toNat : Int) = _
  rw [IntKind.wrap_i64]
  omega

/-- The names of the file: 'na', 'nb' and so on. -/
def nm (i : Nat) : ByteArray := ⟨#[110, UInt8.ofNat (97 + i)]⟩
def nml (lo hi : Nat) : List (ByteArray × Int) := (List.range' lo (hi - lo)).map fun i => (nm i, 2)
theorem nm_ok : ∀ i, i < 8 → nameB (nm i) = true := by decide +kernel
theorem nml_new : ∀ j, j < 8 → look (nml 0 j) (nm j) = none := by decide +kernel
theorem nml_len (i j : Nat) : (nml i j).length = j - i := by simp [nml]
theorem nml_next (j : Nat) : nml 0 j ++ [(nm j, 2)] = nml 0 (j + 1) := by simp [nml, List.range'_concat]
theorem nml_look (i j : Nat) (h : i < j) : look (nml i j) (nm i) = some 2 := by
  obtain ⟨d, hd⟩ : ∃ d, j - i = d + 1 := ⟨j - i - 1, by omega⟩
  simp [look, nml, hd, List.range'_succ]
theorem nml_del (i j : Nat) (h : i < j) : delL (nml i j) (nm i) = nml (i + 1) j := by
  obtain ⟨d, hd⟩ : ∃ d, j - i = d + 1 := ⟨j - i - 1, by omega⟩
  have hd2 : j - (i + 1) = d := by omega
  simp [delL, nml, hd, hd2, List.range'_succ, List.eraseP_cons]
theorem putAt_empty (s : ByteArray) : putAt ByteArray.empty 0 s = s := by
  apply ByteArray.ext
  simp [putAt, ByteArray.data_append, ByteArray.data_extract]

theorem run_letter (W : World) (k : Nat) (hk : k < 8) : (convert 40 9 (.slice (some ⟨W.heap.size, 0, none⟩) 1 1)).run Try.prog (W.alloc (.cells #[.int .u8 (97 + (k : Int))] 5)) = .ok (.string ⟨#[UInt8.ofNat (97 + k)]⟩) (W.alloc (.cells #[.int .u8 (97 + (k : Int))] 5)) := by
  have h := run_convert_bytes_back (P := Try.prog) (W.alloc (.cells #[.int .u8 (97 + (k : Int))] 5)) 40 9 5 ⟨W.heap.size, 0, none⟩ 1 [UInt8.ofNat (97 + k)] Try.underlying40 Try.underlying5 Try.underlying9 (fun j hj => by
    obtain rfl : j = 0 := by simpa using hj
    rw [show (Addr.mk W.heap.size 0 none).add 0 = ⟨W.heap.size, 0, none⟩ from rfl, World.cell?_alloc_at (hn := rfl)]
    simp [UInt8.toNat_ofNat']
    omega)
  exact h

theorem nm_eq (k : Nat) : (({ data := #[110] } : ByteArray) ++ { data := #[97 + UInt8.ofNat k] }) = nm k := by
  apply ByteArray.ext
  simp [nm, ByteArray.data_append, UInt8.ofNat_add]

/-- The root with some names, each of which leads to inode 2, and that file. -/
def HeldIn (S : Tab) (lo hi : Nat) (links holds : Int) (s : ByteArray) : Prop :=
  (∃ b n, S 1 = some (b, n) ∧ n.kind = 1 ∧ n.names = nml lo hi) ∧ ∃ b mp, S 2 = some (b, ⟨2, 0, 420, 1, 1, links, 0, holds, s, mp, [], 0⟩)

set_option maxRecDepth 100000 in
set_option maxHeartbeats 2000000 in
theorem held_any (names holds : Int) (s : ByteArray) (w : World) (hs : s.size ≤ maxLen) :
    Calls Try.prog 5 #[.int .i64 names, .int .i64 holds, .string s] w fun e w' => e = .returned (.bool true) ∧ Below w.heap.size w w' := by
  unfold maxLen at hs
  go_enter Try.func5, Try.ntmps5
  go_wp2_with fail
  refine (shown_any w).mono ?_
  rintro e w1 ⟨rfl, hb⟩
  have HB1 := Lib.hid hb
  clear hb
  go_wp2_with fail
  refine (new_ok _ _ _ _ (by decide +kernel)).mono ?_
  rintro e w2 ⟨t, b, mp, rfl, hown⟩
  have H1 := Lib.hid hown
  clear hown
  by_cases hbig : 4096 < s.size
  · have hbig1 : (4096 : Int) < s.size := by omega
    go_wp2
    go_ret
    exact ⟨rfl, below_two HB1.out H1.out.below⟩
  · have hbig1 : (s.size : Int) ≤ 4096 := by omega
    obtain ⟨n, hn, hn7⟩ : ∃ n : Nat, bits .and .i64 names 7 = n ∧ n ≤ 7 := and_mask names 7 (by omega)
    obtain ⟨h, hh, hh7⟩ : ∃ n : Nat, bits .and .i64 holds 7 = n ∧ n ≤ 7 := and_mask holds 7 (by omega)
    go_wp2_with fail
    refine (make_file H1.out.rep 1 ⟨by omega, rfl, fun i hi => by obtain rfl : i = 0 := by omega
                                                                  simp [upd]⟩ _ _ _ _ (by decide +kernel)).mono ?_
    rintro e w3 ⟨b2, mp2, rfl, hmv⟩
    have H2 := Lib.hid (H1.out.mv hmv)
    clear hmv
    go_wp2_with fail
    refine (put_ok H2.out.rep 2 rfl rfl 0 s (Nat.zero_le _) (by omega)).mono ?_
    rintro e w4 ⟨rfl, hmv⟩
    have H3 := Lib.hid (H2.out.mv hmv)
    clear hmv
    go_wp2_with fail

    clear hn hh hbig
    go_loopw [11] (fun i wr => ∃ (k : Nat) (S : Tab), i = .int .i64 k ∧ k ≤ n ∧ HeldIn S 0 k k 1 s ∧ Own w1.heap.size w1 wr t S) (fun i _ => n - (intOf i).toNat)
    case atStart =>
      refine ⟨0, _, rfl, Nat.zero_le _, ⟨⟨b, _, rfl, rfl, rfl⟩, b2, mp2, ?_⟩, H3.out⟩
      show some (b2, _) = _
      rw [putAt_empty]; rfl
    case round =>
      obtain ⟨k, S, rfl, hk, hin, ho⟩ := hrel
      have HI := Lib.hid hin
      have HO := Lib.hid ho
      clear hin ho
      by_cases hlt : k < n
      · have hlt1 : (k : Int) < n := by omega
        have hk8 : (k : Int) < 8 := by omega
        have hcv := run_letter wr k (by omega)
        obtain ⟨⟨b1, n1, hS1, hk1, hn1⟩, bf, mpf, hS2⟩ := HI.out
        have HS1 := Lib.hid hS1
        have HK1 := Lib.hid hk1
        have HN1 := Lib.hid hn1
        have HS2 := Lib.hid hS2
        clear hS1 hk1 hn1 hS2
        go_wp2_with fail
        rw [nm_eq]
        refine (enter_file ((Mv.refl HO.out.rep).alloc _).rep 1 2 HS1.out HS2.out HK1.out (show (0 : Int) ≠ 1 by decide) (nm k) (nm_ok k (by omega)) (by rw [HN1.out]; exact nml_new k (by omega)) (by decide) (show (0 : Int) ≤ k ∧ (k : Int) < 8 by omega) (by rw [HN1.out, nml_len]; omega)).mono ?_
        rintro e w5 ⟨rfl, hmv⟩
        have HM := Lib.hid ((HO.out.mv ((Mv.refl HO.out.rep).alloc _)).mv hmv)
        clear hmv hcv
        go_wp2
        go_roundw
        case rel => exact ⟨k + 1, _, by go_num, by omega, ⟨⟨b1, { n1 with names := n1.names ++ [(nm k, 2)] }, rfl, HK1.out, by rw [← nml_next, ← HN1.out]⟩, bf, mpf, rfl⟩, HM.out⟩
        case measure => simp [intOf]; omega
      · obtain rfl : k = n := by omega
        clear hlt hk
        go_wp2_with fail
        go_loopw [12] (fun i wr => ∃ (j : Nat) (S : Tab), i = .int .i64 j ∧ j ≤ h ∧ HeldIn S 0 k k (1 + j) s ∧ Own w1.heap.size w1 wr t S) (fun i _ => h - (intOf i).toNat)
        case atStart => exact ⟨0, _, rfl, Nat.zero_le _, HI.out, HO.out⟩
        case round =>
          clear HI HO
          obtain ⟨j, S, rfl, hj, hin, ho⟩ := hrel
          have HI := Lib.hid hin
          have HO := Lib.hid ho
          clear hin ho
          by_cases hlt : j < h
          · have hlt1 : (j : Int) < h := by omega
            obtain ⟨hd, bf, mpf, hS2⟩ := HI.out
            have HD := Lib.hid hd
            have HS2 := Lib.hid hS2
            clear hd hS2
            go_wp2_with fail
            refine (hold_some HO.out.rep 2 HS2.out (show (0 : Int) ≤ 1 + (j : Int) ∧ 1 + (j : Int) ≤ 1000000 by omega)).mono ?_
            rintro e w5 ⟨rfl, hmv⟩
            have HM := Lib.hid (HO.out.mv hmv)
            clear hmv
            go_wp2
            go_roundw
            case rel => exact ⟨j + 1, _, by go_num, by omega, ⟨by obtain ⟨b1, n1, h1, h2, h3⟩ := HD.out; exact ⟨b1, n1, h1, h2, h3⟩, bf, mpf, by rw [show (1 + ((j + 1 : Nat) : Int)) = 1 + (j : Int) + 1 by omega]; rfl⟩, HM.out⟩
            case measure => simp [intOf]; omega
          · obtain rfl : j = h := by omega
            clear hlt hj
            go_wp2_with fail
            go_loopw [13] (fun i wr => ∃ (l : Nat) (S : Tab), i = .int .i64 l ∧ l ≤ k ∧ HeldIn S l k ((k : Int) - l) (1 + j) s ∧ Own w1.heap.size w1 wr t S) (fun i _ => k - (intOf i).toNat)
            case atStart => exact ⟨0, _, rfl, Nat.zero_le _, by simpa using HI.out, HO.out⟩
            case round =>
              clear HI HO
              obtain ⟨l, S, rfl, hl, hin, ho⟩ := hrel
              have HI := Lib.hid hin
              have HO := Lib.hid ho
              clear hin ho
              by_cases hlt : l < k
              · have hlt1 : (l : Int) < k := by omega
                have hk8 : (k : Int) < 8 := by omega
                obtain ⟨⟨b1, n1, hS1, hk1, hn1⟩, bf, mpf, hS2⟩ := HI.out
                have HS1 := Lib.hid hS1
                have HK1 := Lib.hid hk1
                have HN1 := Lib.hid hn1
                have HS2 := Lib.hid hS2
                clear hS1 hk1 hn1 hS2
                go_wp2_with fail
                refine (stat_some HO.out.rep 2 HS2.out).mono ?_
                rintro e w5 ⟨he, hb⟩
                replace he : e = .returned (.tuple #[.agg #[.int .i64 2, .int .i64 0, .int .i64 420, .int .i64 1, .int .i64 1, .int .i64 ((k : Int) - l), .int .i64 ((s.size : Int) + ((0 : Nat) : Int)), .int .i64 0], .bool true]) := he
                subst he
                have H5 := Lib.hid ((HO.out.mv ((Mv.refl HO.out.rep).below hb)).mv ((Mv.refl ((Mv.refl HO.out.rep).below hb).rep).alloc (.cells #[.int .i64 2, .int .i64 0, .int .i64 420, .int .i64 1, .int .i64 1, .int .i64 ((k : Int) - l), .int .i64 (s.size : Int), .int .i64 0] 30)))
                have hcv := run_letter (w5.alloc (.cells #[.int .i64 2, .int .i64 0, .int .i64 420, .int .i64 1, .int .i64 1, .int .i64 ((k : Int) - l), .int .i64 (s.size : Int), .int .i64 0] 30)) l (by omega)
                rw [alloc_size] at hcv
                clear hb
                go_wp2_with fail
                rw [nm_eq]
                refine (remove_keep ((Mv.refl H5.out.rep).alloc _).rep 1 2 HS1.out HS2.out HK1.out (nm l) (by rw [HN1.out]; exact nml_look l k hlt) (by decide) rfl (show (0 : Int) ≤ (k : Int) - l ∧ (k : Int) - l ≤ 1000 by omega) (.inr (.inl (show (0 : Int) < 1 + (j : Int) by omega)))).mono ?_
                rintro e w6 ⟨rfl, hmv⟩
                have HM := Lib.hid ((H5.out.mv ((Mv.refl H5.out.rep).alloc _)).mv hmv)
                clear hmv hcv
                go_wp2
                go_roundw
                case rel => exact ⟨l + 1, _, by go_num, by omega, ⟨⟨b1, { n1 with names := delL n1.names (nm l) }, rfl, HK1.out, by rw [← nml_del l k hlt, ← HN1.out]⟩, bf, mpf, by rw [show ((k : Int) - ((l + 1 : Nat) : Int)) = (k : Int) - l - 1 by omega]; rfl⟩, HM.out⟩
                case measure => simp [intOf]; omega
              · obtain rfl : l = k := by omega
                clear hlt hl
                go_wp2_with fail
                go_loopw [16] (fun i wr => ∃ (m : Nat) (S : Tab), i = .int .i64 m ∧ m ≤ j + 1 ∧ (m ≤ j → ∃ b mp, S 2 = some (b, ⟨2, 0, 420, 1, 1, 0, 0, 1 + (j : Int) - m, s, mp, [], 0⟩)) ∧ (m = j + 1 → S 2 = none) ∧ Own w1.heap.size w1 wr t S) (fun i _ => j + 1 - (intOf i).toNat)
                case atStart => exact ⟨0, _, rfl, by omega, fun _ => by have := HI.out.2; simpa using this, fun h => by omega, HO.out⟩
                case round =>
                  clear HI HO
                  obtain ⟨m, S, rfl, hm, hin, hno, ho⟩ := hrel
                  have HI := Lib.hid hin
                  have HNO := Lib.hid hno
                  have HO := Lib.hid ho
                  clear hin ho hno
                  by_cases hlt : m ≤ j
                  · have hlt1 : (m : Int) ≤ j := by omega
                    have hj8 : (j : Int) < 8 := by omega
                    obtain ⟨bf, mpf, hS2⟩ := HI.out hlt
                    have HS2 := Lib.hid hS2
                    clear hS2
                    go_wp2_with fail
                    refine (stat_some HO.out.rep 2 HS2.out).mono ?_
                    rintro e w5 ⟨he, hb⟩
                    replace he : e = .returned (.tuple #[.agg #[.int .i64 2, .int .i64 0, .int .i64 420, .int .i64 1, .int .i64 1, .int .i64 0, .int .i64 ((s.size : Int) + ((0 : Nat) : Int)), .int .i64 0], .bool true]) := he
                    subst he
                    have H5 := Lib.hid ((HO.out.mv ((Mv.refl HO.out.rep).below hb)).mv ((Mv.refl ((Mv.refl HO.out.rep).below hb).rep).alloc (.cells #[.int .i64 2, .int .i64 0, .int .i64 420, .int .i64 1, .int .i64 1, .int .i64 0, .int .i64 (s.size : Int), .int .i64 0] 30)))
                    clear hb
                    go_wp2_with fail
                    refine (data_some H5.out.rep 2 HS2.out).mono ?_
                    rintro e w6 ⟨he, rfl⟩
                    replace he : e = .returned (.string s) := he
                    subst he
                    go_wp2_with fail
                    by_cases hmj : m < j
                    · refine (drop_keep H5.out.rep 2 HS2.out (show (0 : Int) < 1 + (j : Int) - m ∧ 1 + (j : Int) - m ≤ 1000000 by omega) (.inr (.inl (show (1 : Int) < 1 + (j : Int) - m by omega)))).mono ?_
                      rintro e w6 ⟨rfl, hmv⟩
                      have HM := Lib.hid (H5.out.mv hmv)
                      clear hmv
                      go_wp2
                      go_roundw
                      case rel => exact ⟨m + 1, _, by go_num, by omega, fun _ => ⟨bf, mpf, by rw [show (1 + (j : Int) - ((m + 1 : Nat) : Int)) = 1 + (j : Int) - m - 1 by omega]; rfl⟩, fun h => by omega, HM.out⟩
                      case measure => simp [intOf]; omega
                    · obtain rfl : m = j := by omega
                      refine (drop_free H5.out.rep 2 HS2.out (show 1 + (m : Int) - m = 1 by omega) (show (0 : Int) ≤ 0 by decide) (show (2 : Int) ≠ 1 by decide) rfl).mono ?_
                      rintro e w6 ⟨rfl, hmv⟩
                      have HM := Lib.hid (H5.out.mv hmv)
                      clear hmv
                      go_wp2
                      go_roundw
                      case rel => exact ⟨m + 1, _, by go_num, by omega, fun h => by omega, fun _ => rfl, HM.out⟩
                      case measure => simp [intOf]
                  · have hlt1 : (j : Int) < m := by omega
                    have HN := Lib.hid (HNO.out (by omega))
                    go_wp2_with fail
                    refine (stat_none HO.out.rep 2 HN.out).mono ?_
                    rintro e w5 ⟨he, hb⟩
                    replace he : e = .returned (.tuple #[.agg #[.int .i64 0, .int .i64 0, .int .i64 0, .int .i64 0, .int .i64 0, .int .i64 0, .int .i64 0, .int .i64 0], .bool false]) := he
                    subst he
                    have H5 := Lib.hid ((HO.out.mv ((Mv.refl HO.out.rep).below hb)).mv ((Mv.refl ((Mv.refl HO.out.rep).below hb).rep).alloc (.cells #[.int .i64 0, .int .i64 0, .int .i64 0, .int .i64 0, .int .i64 0, .int .i64 0, .int .i64 0, .int .i64 0] 30)))
                    clear hb
                    go_wp2_with fail
                    refine (drop_none H5.out.rep 2 HN.out).mono ?_
                    rintro e w6 ⟨rfl, rfl⟩
                    go_wp2
                    go_ret
                    exact ⟨rfl, below_two HB1.out H5.out.below⟩
end Go.Proofs.Ytinmdegmnepheaa
