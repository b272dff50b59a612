import Derived.Test.YtinmdegmnepheaaFull
import Derived.Deep.DeepCutAuto
namespace Go.Proofs.Ytinmdegmnepheaa
open Go.RowKit

/-- A slice whose elements may be read: its cells lie below block B. -/
def Strs (w : World) (B : Nat) (a : Option Addr) (len : Nat) : Prop := ∀ j, j < len → ∃ b off s, a = some ⟨b, off, none⟩ ∧ b < B ∧ w.cell? ⟨b, off + j, none⟩ = some (.string s) ∧ s.size ≤ maxLen
def Nums (w : World) (B : Nat) (a : Option Addr) (len : Nat) : Prop := ∀ j, j < len → ∃ b off x, a = some ⟨b, off, none⟩ ∧ b < B ∧ w.cell? ⟨b, off + j, none⟩ = some (.int .i64 x) ∧ -9223372036854775808 ≤ x ∧ x ≤ 9223372036854775807

theorem putAt_size (d : ByteArray) (a : Nat) (s : ByteArray) (ha : a ≤ d.size) : (putAt d a s).size = max d.size (a + s.size) := by
  simp only [putAt, ByteArray.size_append, ByteArray.size_extract]; omega

theorem putAt_end (d : ByteArray) (a : Nat) (s : ByteArray) (h : d.size ≤ a + s.size) : putAt d a s = d.extract 0 a ++ s := by
  rw [putAt, Nat.min_eq_left h]
  simp

/-- A file that nothing leads to, in a tree with the root. -/
def fileIn (S : Tab) (row : ByteArray) : Prop := ∃ b ino owner group links tty holds mp parent, S 2 = some (b, ⟨ino, 0, 420, owner, group, links, tty, holds, row, mp, [], parent⟩)

set_option maxRecDepth 100000 in
set_option maxHeartbeats 2000000 in
theorem files_any (a0 a1 : Option Addr) (len0 cap0 len1 cap1 : Nat) (w : World) (hl0 : len0 ≤ maxLen) (hl1 : len1 ≤ maxLen) (h0 : Strs w w.heap.size a0 len0) (h1 : Nums w w.heap.size a1 len1) :
    Calls Try.prog 4 #[.slice a0 len0 cap0, .slice a1 len1 cap1] w fun e w' => e = .returned (.bool true) ∧ Below w.heap.size w w' := by
  unfold maxLen at hl0 hl1
  have HS := Lib.hid h0
  have HN := Lib.hid h1
  clear h0 h1
  go_enter Try.func4, Try.ntmps4
  go_wp2_with fail
  refine (shown_any w).mono ?_
  rintro e w1 ⟨rfl, hb⟩
  have HB1 := Lib.hid hb
  clear hb
  go_wp2_with fail
  refine (new_ok _ _ _ _ (by decide +kernel)).mono ?_
  rintro e w2 ⟨t, b, mp, rfl, hown⟩
  have H1 := Lib.hid hown
  clear hown
  go_wp2_with fail
  refine (make_file H1.out.rep 1 ⟨by omega, rfl, fun i hi => by obtain rfl : i = 0 := by omega
                                                                simp [upd]⟩ _ _ _ _ (by decide +kernel)).mono ?_
  rintro e w3 ⟨b2, mp2, rfl, hmv⟩
  have H2 := Lib.hid (H1.out.mv hmv)
  clear hmv
  go_wp2_with fail
  go_loopw [9, 10] (fun r i wr => ∃ (k : Nat) (row : ByteArray) (S : Tab), i = .int .i64 k ∧ k ≤ 30 ∧ r = .string row ∧ row.size ≤ 4096 ∧ fileIn S row ∧ Own w1.heap.size w1 wr t S) (fun _ i _ => 30 - (intOf i).toNat)
  case atStart => exact ⟨0, ByteArray.empty, _, rfl, by omega, rfl, Nat.zero_le _, ⟨b2, _, _, _, _, _, _, _, _, rfl⟩, H2.out⟩
  case round =>
    obtain ⟨k, row, S, rfl, hk, rfl, hrow, hf, ho⟩ := hrel
    have hrow1 : (row.size : Int) ≤ 4096 := by omega
    have HF := Lib.hid hf
    have HO := Lib.hid ho
    clear hf ho
    by_cases hc : k < len0 ∧ k < len1 ∧ k < 30
    · obtain ⟨k0, k1, k30⟩ := hc
      obtain ⟨ba, oa, s, rfl, hba, hs, hsl⟩ := HS.out k k0
      obtain ⟨bb, ob, x, rfl, hbb, hx, hx1⟩ := HN.out k k1
      have hs' : wr.cell? ⟨ba, oa + k, none⟩ = some (.string s) := by rw [HO.out.below.cell (p := ⟨ba, oa + k, none⟩) (by have := HB1.out.size; simp; omega), HB1.out.cell (p := ⟨ba, oa + k, none⟩) hba]; exact hs
      have hx' : wr.cell? ⟨bb, ob + k, none⟩ = some (.int .i64 x) := by rw [HO.out.below.cell (p := ⟨bb, ob + k, none⟩) (by have := HB1.out.size; simp; omega), HB1.out.cell (p := ⟨bb, ob + k, none⟩) hbb]; exact hx
      have hk0 : (k : Int) < len0 := by omega
      have hk1 : (k : Int) < len1 := by omega
      have hk30 : (k : Int) < 30 := by omega
      have HX := Lib.hid hx1
      unfold maxLen at hsl
      clear hs hx hx1
      go_upto_if 54 with fail
      go_cut [11] from 32 to 142 (fun v wx => ∃ s' : ByteArray, s'.size ≤ 3000 ∧ v = .string s' ∧ wr = wx)
      case first =>
        by_cases h3 : 3000 < s.size
        · have h31 : (3000 : Int) < s.size := by omega
          go_wp2
          go_meet
          exact ⟨s.extract 0 3000, by simp only [ByteArray.size_extract]; omega, rfl, rfl⟩
        · go_wp2
          go_meet
          exact ⟨s, by omega, rfl, rfl⟩
      case rest =>
        obtain ⟨s', hs3, rfl, rfl⟩ := hcut
        clear hs'
        go_upto_if 62 with fail
        go_cut [12] from 32 to 142 (fun v wx => ∃ y : Int, 0 ≤ y ∧ y ≤ 9223372036854775807 ∧ v = .int .i64 y ∧ wr = wx)
        case first =>
          by_cases h0 : x < 0
          · have hw1 : wrap64 (x + 1) = x + 1 := IntWalk.wrap64_in _ (by have := HX.out; omega)
            have hw2 : wrap64 (-(x + 1)) = -(x + 1) := IntWalk.wrap64_in _ (by have := HX.out; omega)
            go_wp2
            go_meet
            exact ⟨-(x + 1), by omega, by have := HX.out; omega, by rw [hw2], rfl⟩
          · go_wp2
            go_meet
            exact ⟨x, by omega, HX.out.2, rfl, rfl⟩
        case rest =>
          obtain ⟨y, hy0, hy1, rfl, rfl⟩ := hcut
          have HY := Lib.hid hy1
          clear hy1 hx'
          obtain ⟨kk, hkk, hkl⟩ : ∃ kk : Nat, y % ((row.size : Int) + 1) = kk ∧ kk ≤ row.size := by
            refine ⟨(y % ((row.size : Int) + 1)).toNat, ?_, ?_⟩
            · have := Int.emod_nonneg y (show (row.size : Int) + 1 ≠ 0 by omega); omega
            · have := Int.emod_lt_of_pos y (show 0 < (row.size : Int) + 1 by omega); omega
          have hkl1 : (kk : Int) ≤ row.size := by omega
          have hsz : (row.extract 0 kk ++ s').size = kk + s'.size := by simp only [ByteArray.size_append, ByteArray.size_extract]; omega
          go_upto_if 80 with fail
          go_cut [12, 13] from 32 to 142 (fun u v wx => u = .int .i64 kk ∧ v = .string (putAt row kk s') ∧ wr = wx)
          case first =>
            by_cases hlt : kk + s'.size < row.size
            · have hlt1 : (kk : Int) + s'.size < row.size := by omega
              go_wp2
              go_meet
              exact ⟨by rw [hkk], by rw [putAt, Nat.min_eq_right (by omega)], rfl⟩
            · go_wp2
              go_meet
              exact ⟨by rw [hkk], by rw [putAt_end _ _ _ (by omega)], rfl⟩
          case rest =>
            obtain ⟨rfl, rfl, rfl⟩ := hcut
            obtain ⟨bf, ino, owner, group, links, tty, holds, mpf, parent, hf⟩ := HF.out
            have HF1 := Lib.hid hf
            clear hf hkk hsz hy0
            by_cases hfit : s'.size + kk ≤ 4096
            · have hfit1 : (kk : Int) + s'.size ≤ 4096 := by omega
              have hp := putAt_le row kk s' hrow hkl hfit
              have hp1 : ((putAt row kk s').size : Int) ≤ 4096 := by omega
              go_wp2_with fail
              refine (put_ok HO.out.rep 2 HF1.out rfl kk s' hkl hfit).mono ?_
              rintro e w4 ⟨rfl, hmv⟩
              have HP := Lib.hid (HO.out.mv hmv)
              have HG : Hid (upd S 2 (some (bf, ⟨ino, 0, 420, owner, group, links, tty, holds, putAt row kk s', mpf, [], parent⟩)) 2 = some (bf, ⟨ino, 0, 420, owner, group, links, tty, holds, putAt row kk s', mpf, [], parent⟩)) := upd_same ..
              clear hmv
              go_wp2_with fail
              refine (stat_some HP.out.rep 2 HG.out).mono ?_
              rintro e w5 ⟨he, hb⟩
              replace he : e = .returned (.tuple #[.agg #[.int .i64 ino, .int .i64 0, .int .i64 420, .int .i64 owner, .int .i64 group, .int .i64 links, .int .i64 ((putAt row kk s').size + (0 : Nat)), .int .i64 tty], .bool true]) := he
              rw [show (((putAt row kk s').size : Int) + ((0 : Nat) : Int)) = (putAt row kk s').size from by omega] at he
              subst he
              have H5 := Lib.hid ((HP.out.mv ((Mv.refl HP.out.rep).below hb)).mv ((Mv.refl ((Mv.refl HP.out.rep).below hb).rep).alloc (.cells #[.int .i64 ino, .int .i64 0, .int .i64 420, .int .i64 owner, .int .i64 group, .int .i64 links, .int .i64 ((putAt row kk s').size : Int), .int .i64 tty] 30)))
              clear hb
              go_wp2_with fail
              refine (data_some H5.out.rep 2 HG.out).mono ?_
              rintro e w6 ⟨rfl, rfl⟩
              go_wp2_with fail
              refine (put_bad H5.out.rep 2 HG.out rfl _ _ (by show (((putAt row kk s').size : Nat) : Int) < _; omega)).mono ?_
              rintro e w6 ⟨rfl, rfl⟩
              go_wp2
              go_roundw
              case rel => exact ⟨k + 1, _, _, by go_num, by omega, rfl, hp, ⟨_, _, _, _, _, _, _, _, _, HG.out⟩, H5.out⟩
              case measure => simp [intOf]; omega
            · have hfit1 : 4096 < (kk : Int) + s'.size := by omega
              have HG := HF1
              go_wp2_with fail
              refine (put_full HO.out.rep 2 HF1.out rfl kk s' hkl (by omega)).mono ?_
              rintro e w4 ⟨rfl, rfl⟩
              go_wp2_with fail
              refine (stat_some HO.out.rep 2 HG.out).mono ?_
              rintro e w5 ⟨he, hb⟩
              replace he : e = .returned (.tuple #[.agg #[.int .i64 ino, .int .i64 0, .int .i64 420, .int .i64 owner, .int .i64 group, .int .i64 links, .int .i64 ((row).size + (0 : Nat)), .int .i64 tty], .bool true]) := he
              rw [show (((row).size : Int) + ((0 : Nat) : Int)) = (row).size from by omega] at he
              subst he
              have H5 := Lib.hid ((HO.out.mv ((Mv.refl HO.out.rep).below hb)).mv ((Mv.refl ((Mv.refl HO.out.rep).below hb).rep).alloc (.cells #[.int .i64 ino, .int .i64 0, .int .i64 420, .int .i64 owner, .int .i64 group, .int .i64 links, .int .i64 ((row).size : Int), .int .i64 tty] 30)))
              clear hb
              go_wp2_with fail
              refine (data_some H5.out.rep 2 HG.out).mono ?_
              rintro e w6 ⟨rfl, rfl⟩
              go_wp2_with fail
              refine (put_bad H5.out.rep 2 HG.out rfl _ _ (by show (((row).size : Nat) : Int) < _; omega)).mono ?_
              rintro e w6 ⟨rfl, rfl⟩
              go_wp2
              go_roundw
              case rel => exact ⟨k + 1, _, _, by go_num, by omega, rfl, hrow, ⟨_, _, _, _, _, _, _, _, _, HG.out⟩, H5.out⟩
              case measure => simp [intOf]; omega
    · by_cases k0 : k < len0
      · have hk0 : (k : Int) < len0 := by omega
        by_cases k1 : k < len1
        · have hk1 : (k : Int) < len1 := by omega
          obtain rfl : k = 30 := by omega
          clear hc
          go_wp2_with fail
          obtain ⟨bf, ino, owner, group, links, tty, holds, mpf, parent, hf⟩ := HF.out
          refine (cut_ok HO.out.rep 2 hf rfl).mono ?_
          rintro e w4 ⟨rfl, hmv⟩
          have HP := Lib.hid (HO.out.mv hmv)
          clear hmv hf
          go_wp2_with fail
          refine (data_some HP.out.rep 2 (upd_same ..)).mono ?_
          rintro e w5 ⟨he, rfl⟩
          replace he : e = .returned (.string ⟨#[]⟩) := he
          subst he
          go_wp2
          go_ret
          exact ⟨rfl, below_two HB1.out HP.out.below⟩
        · have hk1 : (len1 : Int) ≤ k := by omega
          clear hc
          go_wp2_with fail
          obtain ⟨bf, ino, owner, group, links, tty, holds, mpf, parent, hf⟩ := HF.out
          refine (cut_ok HO.out.rep 2 hf rfl).mono ?_
          rintro e w4 ⟨rfl, hmv⟩
          have HP := Lib.hid (HO.out.mv hmv)
          clear hmv hf
          go_wp2_with fail
          refine (data_some HP.out.rep 2 (upd_same ..)).mono ?_
          rintro e w5 ⟨he, rfl⟩
          replace he : e = .returned (.string ⟨#[]⟩) := he
          subst he
          go_wp2
          go_ret
          exact ⟨rfl, below_two HB1.out HP.out.below⟩
      · have hk0 : (len0 : Int) ≤ k := by omega
        clear hc
        go_wp2_with fail
        obtain ⟨bf, ino, owner, group, links, tty, holds, mpf, parent, hf⟩ := HF.out
        refine (cut_ok HO.out.rep 2 hf rfl).mono ?_
        rintro e w4 ⟨rfl, hmv⟩
        have HP := Lib.hid (HO.out.mv hmv)
        clear hmv hf
        go_wp2_with fail
        refine (data_some HP.out.rep 2 (upd_same ..)).mono ?_
        rintro e w5 ⟨he, rfl⟩
        replace he : e = .returned (.string ⟨#[]⟩) := he
        subst he
        go_wp2
        go_ret
        exact ⟨rfl, below_two HB1.out HP.out.below⟩
end Go.Proofs.Ytinmdegmnepheaa
