/- Many: eight users at most. -/
import Derived.Test.YtmfbmjnoepcigaaDoorR
namespace Go.Proofs.YtmfbmjnoepcigaaDoor
open Go.RowKit

theorem and_15 (m : Int) : ∃ n : Nat, bits .and .i64 m 15 = (n : Int) ∧ n ≤ 15 := by
  have h2 : (BitVec.ofInt 64 (15 : Int)).toNat = 15 := by decide
  have h0 : (BitVec.ofInt 64 m &&& BitVec.ofInt 64 (15 : Int)).toNat = (BitVec.ofInt 64 m).toNat &&& 15 := by rw [BitVec.toNat_and, h2]
  have hle : (BitVec.ofInt 64 m).toNat &&& 15 ≤ 15 := Nat.and_le_right
  refine ⟨(BitVec.ofInt 64 m).toNat &&& 15, ?_, hle⟩
  have h3 : bits .and .i64 m 15 = IntKind.i64.wrap ((BitVec.ofInt 64 m &&& BitVec.ofInt 64 (15 : Int)).toNat : Int) := rfl
  rw [h3, h0, IntKind.wrap_i64]
  omega
def ach (i : Nat) : UInt8 := UInt8.ofNat (97 + i)
theorem ach_nat {i : Nat} (h : i < 100) : (ach i).toNat = 97 + i := by unfold ach; rw [UInt8.toNat_ofNat']; omega
def userM (i : Nat) : UserS := ⟨⟨#[117, ach i]⟩, ⟨#[42]⟩, 7, 7, ⟨#[47]⟩, ⟨#[47, 98, 105, 110, 47, 115, 104]⟩⟩
def usersM (n : Nat) : List UserS := (List.range n).map userM
def tailM : Bytes := [58, 42, 58, 55, 58, 55, 58, 47, 58, 47, 98, 105, 110, 47, 115, 104]
theorem lineM (i : Nat) : lineB (userM i) = 117 :: ach i :: tailM := by
  unfold lineB
  rw [show (userM i).id.toNat = 7 from rfl, show (userM i).group.toNat = 7 from rfl, decD_le (by omega)]
  rfl
theorem usersM_len (n : Nat) : (usersM n).length = n := by simp [usersM]
theorem usersM_succ (n : Nat) : usersM (n + 1) = usersM n ++ [userM n] := by simp [usersM, List.range_succ]
theorem printM_len : ∀ n : Nat, (printB (usersM n)).length = 19 * n
  | 0 => rfl
  | n + 1 => by rw [usersM_succ, printB_snoc, List.length_append, List.length_append, printM_len n, lineM]; simp [tailM]; omega
theorem manyR : ∀ n : Fin 9, rightB (usersM n.val) = true := by decide +kernel
theorem mayM8 : mayB (userM 8) = true := by decide +kernel
theorem newM8a : ((namesU (usersM 8)).all fun y => decide (y ≠ (userM 8).name)) = true := by decide +kernel
theorem newM8 : (userM 8).name ∉ namesU (usersM 8) := fun h => by
  have := List.all_eq_true.1 newM8a _ h
  simp at this
theorem cutM : ∀ n : Fin 16, 9 ≤ n.val → usersM n.val = usersM 8 ++ userM 8 :: (usersM n.val).drop 9 := by decide +kernel
theorem many_few {n : Nat} (h : n ≤ 8) : RightU (usersM n) := (rightB_iff _).1 (manyR ⟨n, by omega⟩)
theorem many_more {n : Nat} (h : 9 ≤ n) (h2 : n ≤ 15) : parseL [] 1 (printB (usersM n)) = .error (9, 12) := by
  rw [cutM ⟨n, by omega⟩ h, printB_app, parse_print (usersM 8) [] 1 _ (by rw [List.nil_append]; exact many_few (Nat.le_refl _)), List.nil_append, printB_cons, parseL_step mayM8, if_neg newM8, if_pos (usersM_len 8), usersM_len]
theorem many_parse {S : ByteArray} {n : Nat} (hS : S.data.toList = printB (usersM n)) (h : n ≤ 15) : parseR S.data.toList = if n ≤ 8 then (usersM n, 0, 0) else ([], 9, 12) := by
  have hl := printM_len n
  rw [hS]
  by_cases h8 : n ≤ 8
  · rw [if_pos h8]; exact parse_ok (by omega) (parse_of (many_few h8) 1)
  · rw [if_neg h8]; exact parse_err (by omega) (many_more (by omega) h)
theorem conv_new (W : World) (d : Nat) (hd : d < 100) : (convert 30 9 (.slice (some ⟨W.heap.size, 0, none⟩) 1 1)).run Tryd.prog (W.alloc (Obj.cells #[.int .u8 (97 + (d : Int))] 5)) = .ok (.string ⟨#[ach d]⟩) (W.alloc (Obj.cells #[.int .u8 (97 + (d : Int))] 5)) := by
  have hcd : ((ach d).toNat : Int) = 97 + (d : Int) := by rw [ach_nat hd]; omega
  rw [← hcd]
  exact run_convert_bytes_back (P := Tryd.prog) (W.alloc (Obj.cells #[.int .u8 ((ach d).toNat : Int)] 5)) 30 9 5 ⟨W.heap.size, 0, none⟩ 1 [ach d] Tryd.underlying30 Tryd.underlying5 Tryd.underlying9 (fun j hj => by
    obtain rfl : j = 0 := by simp at hj; exact hj
    exact cell_one_new W (.int .u8 ((ach d).toNat : Int)) 5 0 _ rfl)
theorem step_data (S : ByteArray) (i : Nat) (h : S.data.toList = printB (usersM i)) : (S ++ ⟨#[117]⟩ ++ ⟨#[ach i]⟩ ++ ⟨#[58, 42, 58, 55, 58, 55, 58, 47, 58, 47, 98, 105, 110, 47, 115, 104, 10]⟩ : ByteArray).data.toList = printB (usersM (i + 1)) := by
  rw [usersM_succ, printB_snoc, lineM, ByteArray.data_append, ByteArray.data_append, ByteArray.data_append, Array.toList_append, Array.toList_append, Array.toList_append, h]
  simp [tailM]
set_option maxHeartbeats 4000000 in
set_option maxRecDepth 100000 in
theorem many_law (m : Int) (w : World) (hW : HasW w) : Calls Tryd.prog 4 #[.int .i64 m] w fun e w' => e = .returned (.bool true) ∧ Below w.heap.size w w' := by
  have HW := Lib.hid hW
  have HS := Lib.hid (shown_any w hW)
  obtain ⟨n, hand, hle⟩ := and_15 m
  have HLE := Lib.hid hle
  clear hW hle
  go_enter Tryd.func4, Tryd.ntmps4
  go_wp2_with fail
  refine HS.out.mono ?_
  rintro e w1 ⟨rfl, hb⟩
  have HB1 := Lib.hid hb
  clear hb HS
  go_upto_region 3 with fail
  have hand2 := Lib.hid hand
  clear hand
  go_wp2
  go_loopw [4, 5] (fun v4 v5 wr => ∃ (S : ByteArray) (i : Nat), v4 = .string S ∧ v5 = .int .i64 i ∧ i ≤ n ∧ Hid (Below w.heap.size w wr ∧ S.data.toList = printB (usersM i))) (fun v4 v5 _ => n - (intOf v5).toNat)
  case atStart => exact ⟨⟨#[]⟩, 0, rfl, rfl, Nat.zero_le _, Lib.hid ⟨HB1.out, rfl⟩⟩
  case round =>
    obtain ⟨S, i, rfl, rfl, hi, HH⟩ := hrel
    by_cases hlt : i < n
    · have hlt1 : (i : Int) < n := by omega
      have hSz : S.size ≤ 300 := by
        have h1 := congrArg List.length HH.out.2
        rw [printM_len, sz] at h1
        have := HLE.out
        omega
      have hi16 : i < 100 := by have := HLE.out; omega
      have hw8 : IntKind.u8.wrap (97 + (i : Int)) = 97 + (i : Int) := by
        have := HLE.out
        rw [IntKind.wrap_u8]; omega
      have hw64 : wrap64 (97 + (i : Int)) = 97 + (i : Int) := by unfold wrap64; omega
      have hcv := conv_new wr i hi16
      have hi1 : (i : Int) + 1 ≤ 100 := by omega
      have HST := Lib.hid (step_data S i HH.out.2)
      have hS1 : (S.size : Int) ≤ 300 := by omega
      have zs : ¬ 9223372036854775807 < S.size + 1 := by omega
      have zs2 : ¬ 9223372036854775807 < S.size + 1 + 1 := by omega
      clear hSz hi16
      go_wp2
      go_roundw
      case rel => exact ⟨_, i + 1, rfl, by go_num, by omega, Lib.hid ⟨HH.out.1.alloc HH.out.1.size _, HST.out⟩⟩
      case measure => simp [intOf]; omega
    · have hlt1 : ¬ (i : Int) < n := by omega
      have hin : i = n := by omega
      subst hin
      have HPR := Lib.hid (many_parse HH.out.2 HLE.out)
      have HP := Lib.hid (parse_any S wr (HW.out.below HH.out.1))
      have HSD := Lib.hid HH.out.2
      go_wp2_with fail
      refine HP.out.mono ?_
      rintro e w3 ⟨v, rfl, ho, hb⟩
      have HB3 := Lib.hid (HH.out.1.trans (hb.mono HH.out.1.size))
      clear hb HP
      by_cases h8 : i ≤ 8
      · have hr := HPR.out
        rw [if_pos h8] at hr
        rw [hr] at ho
        rw [hr]
        have HR8 := Lib.hid (many_few h8)
        have h81 : (i : Int) ≤ 8 := by omega
        obtain ⟨a, c, rfl⟩ := ho.form
        have HC := print_any _ (usersM i) w3 (own_inU ho) (by rw [usersM_len]; omega) (fun u hu => may_sz (HR8.out.may u hu)) (HW.out.below HB3.out)
        rw [print_of HR8.out HSD.out.symm, usersM_len] at HC
        rw [usersM_len]
        have HC1 := Lib.hid HC
        clear HC ho hr h8 HPR hi hlt hlt1
        go_wp2_with fail
        refine HC1.out.mono ?_
        rintro e w4 ⟨rfl, hb⟩
        have HB4 := Lib.hid (HB3.out.trans (hb.mono HB3.out.size))
        clear hb
        go_wp2
        go_ret
        exact ⟨rfl, HB4.out⟩
      · have hr := HPR.out
        rw [if_neg h8] at hr
        rw [hr] at ho
        rw [hr]
        have h81 : ¬ (i : Int) ≤ 8 := by omega
        obtain ⟨a, c, rfl⟩ := ho.form
        clear ho hr h8 HPR hi hlt hlt1
        go_wp2
        go_ret
        exact ⟨rfl, HB3.out⟩
end Go.Proofs.YtmfbmjnoepcigaaDoor
