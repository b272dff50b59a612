import Derived.Test.YtinmdegmnepheaaDoorPlain
import Derived.Test.YtinmdegmnepheaaDoorShelf
import Derived.WalkKit
import Derived.WalkLawsBesides
import Derived.WalkSpells
import Derived.Outline
import Derived.Below
import Derived.Lib.Hide
import Derived.BigQuiet
import Derived.Deep.QuietTactic
namespace Go.Proofs.YtinmdegmnepheaaDoor
open Go.RowKit

theorem ret_bool {a b : Bool} (h : a = b) : Ending.returned (.bool a) = .returned (.bool b) := by rw [h]
theorem ret_str {a b : ByteArray} (h : a = b) : Ending.returned (.string a) = .returned (.string b) := by rw [h]
theorem ret_int {k : IntKind} {a b : Int} (h : a = b) : Ending.returned (.int k a) = .returned (.int k b) := by rw [h]
theorem toList_data (s : ByteArray) : s.toList = s.data.toList := ByteArray.toList_eq s

set_option maxHeartbeats 400000 in
theorem cutl_some (s : ByteArray) (w : World) (i : Nat) (hi : Lib.indexByte s.data.toList 47 = i) (hs : s.size ≤ 1000000) :
    Calls Tryd.prog 38 #[.string s, .string ⟨#[47]⟩] w fun e w' => e = .returned (.tuple #[.string (s.extract 0 i), .string (s.extract (i + 1) s.size), .bool true]) ∧ ∃ n, w' = w.drewN n := by
  have hlt : i < s.size := by have := (stroke_at hi).1; rwa [sz] at this
  have hi1 : (i : Int) < s.size := by omega
  have HI := Lib.hid hi
  clear hi
  go_enter Tryd.func38, Tryd.ntmps38
  go_wp2_with fail
  refine (Tryd.stringslite_Index_one _ _ _).mono ?_
  rintro e w' ⟨rfl, rfl⟩
  rw [HI.out]
  go_wp2
  go_quiet (fail)
  go_wp2
  go_ret3
  exact ⟨rfl, _, rfl⟩
set_option maxHeartbeats 400000 in
theorem cutl_none (s : ByteArray) (w : World) (hi : Lib.indexByte s.data.toList 47 = -1) :
    Calls Tryd.prog 38 #[.string s, .string ⟨#[47]⟩] w fun e w' => e = .returned (.tuple #[.string s, .string ⟨#[]⟩, .bool false]) ∧ ∃ n, w' = w.drewN n := by
  have HI := Lib.hid hi
  clear hi
  go_enter Tryd.func38, Tryd.ntmps38
  go_wp2_with fail
  refine (Tryd.stringslite_Index_one _ _ _).mono ?_
  rintro e w' ⟨rfl, rfl⟩
  rw [HI.out]
  go_wp2
  go_ret3
  exact ⟨rfl, 0, rfl⟩
set_option maxHeartbeats 400000 in
theorem cut_some (s : ByteArray) (w : World) (i : Nat) (hi : Lib.indexByte s.data.toList 47 = i) (hs : s.size ≤ 1000000) :
    Calls Tryd.prog 31 #[.string s, .string ⟨#[47]⟩] w fun e w' => e = .returned (.tuple #[.string (s.extract 0 i), .string (s.extract (i + 1) s.size), .bool true]) ∧ ∃ n, w' = w.drewN n := by
  have HI := Lib.hid hi
  clear hi
  go_enter Tryd.func31, Tryd.ntmps31
  go_wp2_with fail
  refine (cutl_some s _ i HI.out hs).mono ?_
  rintro e w' ⟨rfl, n, rfl⟩
  go_wp2
  go_ret3
  exact ⟨rfl, n, rfl⟩
set_option maxHeartbeats 400000 in
theorem cut_none (s : ByteArray) (w : World) (hi : Lib.indexByte s.data.toList 47 = -1) :
    Calls Tryd.prog 31 #[.string s, .string ⟨#[47]⟩] w fun e w' => e = .returned (.tuple #[.string s, .string ⟨#[]⟩, .bool false]) ∧ ∃ n, w' = w.drewN n := by
  have HI := Lib.hid hi
  clear hi
  go_enter Tryd.func31, Tryd.ntmps31
  go_wp2_with fail
  refine (cutl_none s _ HI.out).mono ?_
  rintro e w' ⟨rfl, n, rfl⟩
  go_wp2
  go_ret3
  exact ⟨rfl, n, rfl⟩

/-- No byte is one that may not be. -/
def okc (c : UInt8) : Bool := decide (32 ≤ c.toNat) && decide (c.toNat ≠ 127)
def plainB (l : List UInt8) : Bool := l.all okc

theorem plain_take (s : ByteArray) (k : Nat) (h : k < s.size) : plainB (s.data.toList.take (k + 1)) = (plainB (s.data.toList.take k) && okc s[k]) := by
  unfold plainB
  rw [List.take_succ_eq_append_getElem (by simpa using h), List.all_append]
  simp only [List.all_cons, List.all_nil, Bool.and_true]
  rfl
theorem plain_all (s : ByteArray) (k : Nat) (hk : s.size ≤ k) : s.data.toList.take k = s.data.toList := List.take_of_length_le (by simpa using hk)
theorem plain_bad (s : ByteArray) (k : Nat) (h : k < s.size) (hb : okc s[k] = false) : plainB s.data.toList = false := by
  unfold plainB
  rw [List.all_eq_false]
  exact ⟨s[k], by have : s[k] = s.data.toList[k]'(by simpa using h) := rfl
                  rw [this]; exact List.getElem_mem _, by simp [hb]⟩

set_option maxHeartbeats 400000 in
theorem plain_any (s : ByteArray) (w : World) (hs : s.size ≤ 1000000) :
    Calls Tryd.prog 24 #[.string s] w fun e w' => e = .returned (.bool (plainB s.data.toList)) ∧ w = w' := by
  go_enter Tryd.func24, Tryd.ntmps24
  go_wp2
  go_loop [6] (fun i => ∃ k : Nat, k ≤ s.size ∧ i = .int .i64 k ∧ plainB (s.data.toList.take k) = true) (fun i => s.size - (intOf i).toNat)
  case atStart => exact ⟨0, Nat.zero_le _, rfl, rfl⟩
  case round =>
    obtain ⟨k, hk, rfl, hp⟩ := hrel
    have HP := Lib.hid hp
    clear hp
    by_cases hlt : k < s.size
    · by_cases h1 : (s[k].toNat : Int) < 32
      · have hb : okc s[k] = false := by simp [okc]; omega
        have HB := Lib.hid hb
        clear hb
        go_wp2
        go_ret
        exact ⟨ret_bool (plain_bad s k hlt HB.out).symm, rfl⟩
      · by_cases h2 : ((s[k].toNat : Int) == 127) = true
        · have hb : okc s[k] = false := by simp at h2; simp [okc]; omega
          have HB := Lib.hid hb
          clear hb
          go_wp2
          go_ret
          exact ⟨ret_bool (plain_bad s k hlt HB.out).symm, rfl⟩
        · have h3 : ((s[k].toNat : Int) == 127) = false := by simpa using h2
          have hb : okc s[k] = true := by simp at h3; simp [okc]; omega
          have HB := Lib.hid hb
          clear hb h2
          go_wp2
          go_round
          case rel => exact ⟨k + 1, by omega, by go_num, by rw [plain_take s k hlt, HP.out, HB.out]; rfl⟩
          case measure => simp [intOf]; omega
    · go_wp2
      go_ret
      exact ⟨ret_bool (by rw [plain_all s k (by omega)] at HP; exact HP.out.symm), rfl⟩

def nameB (s : ByteArray) : Bool := decide (¬ s.data.toList = [] ∧ s.size ≤ 14 ∧ ¬ s.data.toList = [46] ∧ ¬ s.data.toList = [46, 46] ∧ plainB s.data.toList = true ∧ ¬ (0 ≤ Lib.indexByte s.data.toList 47))

set_option maxHeartbeats 400000 in
theorem name_any (s : ByteArray) (w : World) :
    Calls Tryd.prog 16 #[.string s] w fun e w' => e = .returned (.bool (nameB s)) ∧ w = w' := by
  go_enter Tryd.func16, Tryd.ntmps16
  go_wp2_with (first | (go_at_call 24; refine (plain_any _ _ (by omega)).mono ?_; rintro e w' ⟨rfl, rfl⟩) | (go_at_call 27; refine (Tryd.strings_Contains_one _ _ _).mono ?_; rintro e w' ⟨rfl, rfl⟩))
  all_goals (have H := Lib.hid (toList_data s))
  all_goals go_ret
  all_goals refine ⟨ret_bool ?_, rfl⟩
  all_goals simp only [H.out] at *
  · simp [nameB, *]
  · simp [nameB, *]
  · simp [nameB, *]
  · have hsz : s.size ≤ 14 := by omega
    have hne : s.data.toList.isEmpty = false := by cases hl : s.data.toList with | nil => exact absurd hl ‹_› | cons => rfl
    have e1 : (s.data.toList == [46]) = false := by simpa using ‹¬ s.data.toList = [46]›
    have e2 : (s.data.toList == [46, 46]) = false := by simpa using ‹¬ s.data.toList = [46, 46]›
    rw [hne, e1, e2, Bool.eq_iff_iff]
    simp only [nameB, decide_eq_true_eq, Bool.not_false, Bool.true_and, Bool.not_eq_true']
    constructor
    · intro h; exact ⟨‹_›, hsz, ‹_›, ‹_›, ‹_›, by simpa using h⟩
    · rintro ⟨_, _, _, _, _, h⟩; simpa using h
  · simp [nameB, *]
  · have hsz : ¬ s.size ≤ 14 := by omega
    simp [nameB, hsz]

theorem contains_idx (l : Bytes) (c : UInt8) : l.contains c = decide (0 ≤ Lib.indexByte l c) := by
  rw [Bool.eq_iff_iff]
  simp only [List.contains_iff_mem, decide_eq_true_eq]
  constructor
  · intro hm
    have h1 := Lib.indexByte_ge l c
    rcases Int.lt_or_le (Lib.indexByte l c) 0 with h | h
    · obtain ⟨k, hk, he⟩ := List.getElem_of_mem hm
      exact absurd (by rw [List.getElem?_eq_getElem hk, he]) (Lib.indexByte_none (by omega) k)
    · exact h
  · intro h
    obtain ⟨i, hi⟩ : ∃ i : Nat, Lib.indexByte l c = i := ⟨(Lib.indexByte l c).toNat, by omega⟩
    exact List.mem_of_getElem? (Lib.indexByte_some hi).1
theorem nameB_iff (s : ByteArray) : nameB s = true ↔ (¬ s.data.toList = [] ∧ s.size ≤ 14 ∧ ¬ s.data.toList = [46] ∧ ¬ s.data.toList = [46, 46] ∧ plainB s.data.toList = true ∧ 47 ∉ s.data.toList) := by
  simp only [nameB, decide_eq_true_eq]
  have := contains_idx s.data.toList 47
  rw [Bool.eq_iff_iff] at this
  simp only [List.contains_iff_mem, decide_eq_true_eq] at this
  rw [this]

/-! ### Base -/
theorem ex_ex (s : ByteArray) (n a b : Nat) (h : b ≤ n) : (s.extract 0 n).extract a b = s.extract a b := by
  apply ByteArray.ext; apply Array.ext'
  rw [ex_data, ex_data, ex_data]
  simp [List.take_take, Nat.min_eq_left h]

set_option maxHeartbeats 400000 in
theorem base_any (s : ByteArray) (n i : Nat) (hn : IsTrim s n) (hi : IsCut s n i) (w : World) (hs : s.size ≤ 140737488351232) :
    Calls Tryd.prog 14 #[.string s] w fun e w' => e = .returned (.tuple #[.string (bA s n i), .string (bB s n i)]) ∧ ∃ k, w' = w.drewN k := by
  have HN := Lib.hid hn
  have HI := Lib.hid hi
  have HL := Lib.hid (last_eq s n i hn.1 hi)
  have HT := Lib.hid (trim_eq s n hn)
  clear hn hi
  go_enter Tryd.func14, Tryd.ntmps14
  go_wp2_with fail
  refine (Tryd.strings_TrimRight_one s 47 (by decide) _ (by omega)).mono ?_
  rintro e w' ⟨rfl, rfl⟩
  rw [HT.out]
  by_cases h0 : n = 0
  · subst h0
    have he : (s.extract 0 0).toList = [] := by rw [toList_data]; simp
    go_wp2
    go_ret2
    exact ⟨rfl, 0, rfl⟩
  · have hsz : (s.extract 0 n).size = n := by have := HN.out.1; simp [ByteArray.size_extract]; omega
    have he : (s.extract 0 n).toList.isEmpty = false := by
      rw [toList_data]
      cases hh : (s.extract 0 n).data.toList with
      | nil => have := congrArg List.length hh; rw [sz, hsz] at this; simp at this; omega
      | cons => rfl
    have HZ := Lib.hid hsz
    clear hsz
    go_wp2_with fail
    refine (Tryd.strings_LastIndexByte _ 47 (by rw [HZ.out]; have := HN.out.1; omega) _).mono ?_
    rintro e w' ⟨rfl, rfl⟩
    rw [HL.out]
    have hni : i ≤ n := HI.out.1
    have hni1 : (i : Int) ≤ n := by omega
    have hn1 : (n : Int) ≤ 140737488351232 := by have := HN.out.1; omega
    have hsz := HZ.out
    go_wp2
    go_quiet (fail)
    go_wp2
    go_ret2
    refine ⟨?_, _, rfl⟩
    show Ending.returned (.tuple #[.string ((s.extract 0 n).extract 0 i), .string ((s.extract 0 n).extract i n)]) = _
    rw [ex_ex s n 0 i HI.out.1, ex_ex s n i n (Nat.le_refl _), bA, bB, if_neg h0, if_neg h0]

theorem bA_zero (s : ByteArray) (i : Nat) : bA s 0 i = s := rfl
theorem bB_zero (s : ByteArray) (i : Nat) : bB s 0 i = ⟨#[]⟩ := rfl
set_option maxHeartbeats 400000 in
theorem rbase_any (s : ByteArray) (n i : Nat) (hn : IsTrim s n) (hi : IsCut s n i) (w : World) (hs : s.size ≤ 140737488351232) :
    Calls Tryd.prog 15 #[.string s] w fun e w' => e = .returned (.tuple #[.string (bA s n i), .string (bB s n i)]) ∧ ∃ k, w' = w.drewN k := by
  have hns : n ≤ s.size := hn.1
  have hni : i ≤ n := hi.1
  have HN := Lib.hid hn
  have HI := Lib.hid hi
  have hs1 : (s.size : Int) ≤ 140737488351232 := by omega
  clear hn hi
  go_enter Tryd.func15, Tryd.ntmps15
  go_wp2
  go_loop [4] (fun x => ∃ k : Nat, n ≤ k ∧ k ≤ s.size ∧ x = .int .i64 k) (fun x => (intOf x).toNat)
  case atStart => exact ⟨s.size, hns, Nat.le_refl _, rfl⟩
  case round =>
    obtain ⟨k, hk1, hk2, rfl⟩ := hrel
    by_cases hlt : n < k
    · have h0 : (0 : Int) < k := by omega
      have hb : ((s[k - 1].toNat : Int) == 47) = true := by
        have := HN.out.2.1 (k - 1) (by omega) (by omega)
        rw [data_get s (k - 1) (by omega)] at this
        rw [this]; rfl
      have e1 : ((k : Int) - 1).toNat = k - 1 := by omega
      go_wp2
      go_round
      case rel => exact ⟨k - 1, by omega, by omega, by go_num⟩
      case measure => simp [intOf]; omega
    · obtain rfl : k = n := by omega
      by_cases h0 : k = 0
      · subst h0
        go_wp2
        go_ret2
        exact ⟨rfl, 0, rfl⟩
      · have h01 : (0 : Int) < k := by omega
        have h02 : ((k : Int) == 0) = false := by simp; omega
        have hb : ((s[k - 1].toNat : Int) == 47) = false := by
          have := HN.out.2.2.resolve_left h0
          rw [data_get s (k - 1) (by omega)] at this
          simp; exact fun h => this (UInt8.toNat_inj.1 (by have e : (47 : UInt8).toNat = 47 := rfl; omega))
        have e1 : ((k : Int) - 1).toNat = k - 1 := by omega
        go_wp2
        clear hb
        go_loop [5] (fun x => ∃ j : Nat, i ≤ j ∧ j ≤ k ∧ x = .int .i64 j) (fun x => (intOf x).toNat)
        case atStart => exact ⟨k, hni, Nat.le_refl _, rfl⟩
        case round =>
          obtain ⟨j, hj1, hj2, rfl⟩ := hrel
          by_cases hlt2 : i < j
          · have h0 : (0 : Int) < j := by omega
            have hb : ((s[j - 1].toNat : Int) == 47) = false := by
              have := HI.out.2.1 (j - 1) (by omega) (by omega)
              rw [data_get s (j - 1) (by omega)] at this
              simp; exact fun h => this (UInt8.toNat_inj.1 (by have e : (47 : UInt8).toNat = 47 := rfl; omega))
            have e1 : ((j : Int) - 1).toNat = j - 1 := by omega
            go_wp2
            go_round
            case rel => exact ⟨j - 1, by omega, by omega, by go_num⟩
            case measure => simp [intOf]; omega
          · obtain rfl : j = i := by omega
            by_cases hj0 : j = 0
            · subst hj0
              go_wp2
              go_quiet (fail)
              go_wp2
              go_ret2
              exact ⟨by simp [bA, bB, h0], _, rfl⟩
            · have hj01 : (0 : Int) < j := by omega
              have hb : ((s[j - 1].toNat : Int) == 47) = true := by
                have := HI.out.2.2.resolve_left hj0
                rw [data_get s (j - 1) (by omega)] at this
                rw [this]; rfl
              have e1 : ((j : Int) - 1).toNat = j - 1 := by omega
              go_wp2
              go_quiet (fail)
              go_wp2
              go_ret2
              exact ⟨by simp [bA, bB, h0], _, rfl⟩

/-! ### Join -/
def joinB (d n : ByteArray) : ByteArray := if d.data.toList = [] ∨ Lib.hasSuffix d.data.toList [47] = true then d ++ n else d ++ ⟨#[47]⟩ ++ n
set_option maxHeartbeats 400000 in
theorem join_any (d n : ByteArray) (w : World) (hd : d.size ≤ 140737488351232) (hn : n.size ≤ 140737488351232) :
    Calls Tryd.prog 18 #[.string d, .string n] w fun e w' => e = .returned (.string (joinB d n)) ∧ w = w' := by
  by_cases h0 : d.data.toList = []
  · have h1 : d.toList = [] := by rw [toList_data]; exact h0
    have HJ : Hid (joinB d n = d ++ n) := Lib.hid (by simp [joinB, h0])
    clear h0
    go_enter Tryd.func18, Tryd.ntmps18
    go_wp2_with fail
    go_ret
    exact ⟨ret_str HJ.out.symm, rfl⟩
  · have h1 : d.toList.isEmpty = false := by rw [toList_data]; cases hh : d.data.toList with | nil => exact absurd hh h0 | cons => rfl
    by_cases h2 : Lib.hasSuffix d.data.toList [47] = true
    · have HJ : Hid (joinB d n = d ++ n) := Lib.hid (by simp [joinB, h2])
      clear h0
      go_enter Tryd.func18, Tryd.ntmps18
      go_wp2_with fail
      refine (Tryd.strings_HasSuffix _ _ _ (by omega)).mono ?_
      rintro e w' ⟨rfl, rfl⟩
      go_wp2
      go_ret
      exact ⟨ret_str HJ.out.symm, rfl⟩
    · have HJ : Hid (joinB d n = d ++ ⟨#[47]⟩ ++ n) := Lib.hid (by simp [joinB, h2, h0])
      replace h2 : Lib.hasSuffix d.data.toList [47] = false := by simpa using h2
      clear h0
      go_enter Tryd.func18, Tryd.ntmps18
      go_wp2_with fail
      refine (Tryd.strings_HasSuffix _ _ _ (by omega)).mono ?_
      rintro e w' ⟨rfl, rfl⟩
      go_wp2
      go_ret
      exact ⟨ret_str HJ.out.symm, rfl⟩
theorem suffix_last (d : ByteArray) (h0 : ¬ d.data.toList = []) : Lib.hasSuffix d.data.toList [47] = decide (d.data[d.size - 1]! = 47) := by
  have hz : 0 < d.size := by rw [← sz]; exact List.length_pos_iff.2 h0
  have hlast : d.data.toList.getLast h0 = d.data[d.size - 1]! := by
    rw [List.getLast_eq_getElem, toList_get]; simp
  rw [Bool.eq_iff_iff, decide_eq_true_eq, ← hlast]
  show List.isSuffixOf [47] d.data.toList = true ↔ _
  rw [List.isSuffixOf_iff_suffix]
  constructor
  · rintro ⟨t, ht⟩
    simp only [← ht, List.getLast_append, List.getLast_singleton]
    simp
  · intro h
    exact ⟨d.data.toList.dropLast, by rw [← h]; exact List.dropLast_concat_getLast h0⟩
set_option maxHeartbeats 400000 in
theorem rjoin_any (d n : ByteArray) (w : World) (hd : d.size ≤ 140737488351232) (hn : n.size ≤ 140737488351232) :
    Calls Tryd.prog 19 #[.string d, .string n] w fun e w' => e = .returned (.string (joinB d n)) ∧ w = w' := by
  have hd1 : (d.size : Int) ≤ 140737488351232 := by omega
  by_cases h0 : d.data.toList = []
  · have h1 : d.toList = [] := by rw [toList_data]; exact h0
    have HJ : Hid (joinB d n = n) := Lib.hid (by
      simp only [joinB, h0, true_or, if_true]
      apply ByteArray.ext; apply Array.ext'; simp [ByteArray.data_append, h0])
    clear h0
    go_enter Tryd.func19, Tryd.ntmps19
    go_wp2_with fail
    go_ret
    exact ⟨ret_str HJ.out.symm, rfl⟩
  · have h1 : d.toList.isEmpty = false := by rw [toList_data]; cases hh : d.data.toList with | nil => exact absurd hh h0 | cons => rfl
    have hz : 0 < d.size := by rw [← sz]; exact List.length_pos_iff.2 h0
    have hz1 : (0 : Int) < d.size := by omega
    have e1 : ((d.size : Int) - 1).toNat = d.size - 1 := by omega
    have hsl := suffix_last d h0
    rw [data_get _ _ (by omega)] at hsl
    by_cases h2 : d[d.size - 1] = 47
    · have HJ : Hid (joinB d n = d ++ n) := Lib.hid (by simp [joinB, hsl, h2])
      have hb : ((d[d.size - 1].toNat : Int) == 47) = true := by rw [h2]; rfl
      clear h0 h2 hsl
      go_enter Tryd.func19, Tryd.ntmps19
      go_wp2
      go_ret
      exact ⟨ret_str HJ.out.symm, rfl⟩
    · have HJ : Hid (joinB d n = d ++ ⟨#[47]⟩ ++ n) := Lib.hid (by simp [joinB, hsl, h2, h0])
      have hb : ((d[d.size - 1].toNat : Int) == 47) = false := by
        simp; exact fun h => h2 (UInt8.toNat_inj.1 (by have e : (47 : UInt8).toNat = 47 := rfl; omega))
      clear h0 h2 hsl
      go_enter Tryd.func19, Tryd.ntmps19
      go_wp2
      go_ret
      exact ⟨ret_str HJ.out.symm, rfl⟩

/-! ### The document's Name -/
theorem nameB_neg (s : ByteArray) (j : Nat) (hj : j < s.size) (h : s[j].toNat < 32 ∨ s[j].toNat = 127 ∨ s[j].toNat = 47) : nameB s = false := by
  rw [Bool.eq_false_iff]
  intro hn
  obtain ⟨_, _, _, _, hp, hno⟩ := (nameB_iff s).1 hn
  by_cases h1 : s[j].toNat < 32 ∨ s[j].toNat = 127
  · have : okc s[j] = false := by simp [okc]; omega
    rw [plain_bad s j hj this] at hp; cases hp
  · refine hno ?_
    have e : s[j] = 47 := UInt8.toNat_inj.1 (by have e : (47 : UInt8).toNat = 47 := rfl; omega)
    have : s.data.toList[j]'(by rw [sz]; exact hj) = 47 := by rw [toList_get, data_get s j hj, e]
    rw [← this]; exact List.getElem_mem _
set_option maxHeartbeats 400000 in
theorem rname_any (s : ByteArray) (w : World) :
    Calls Tryd.prog 17 #[.string s] w fun e w' => e = .returned (.bool (nameB s)) ∧ w = w' := by
  by_cases h1 : s.size < 1
  · have HN : Hid (nameB s = false) := Lib.hid (by
      rw [Bool.eq_false_iff]; intro hn
      have := (nameB_iff s).1 hn
      exact this.1 (List.eq_nil_of_length_eq_zero (by rw [sz]; omega)))
    have h11 : (s.size : Int) < 1 := by omega
    go_enter Tryd.func17, Tryd.ntmps17
    go_wp2
    go_ret
    exact ⟨ret_bool HN.out.symm, rfl⟩
  have h11 : ¬ (s.size : Int) < 1 := by omega
  by_cases h2 : 14 < s.size
  · have HN : Hid (nameB s = false) := Lib.hid (by
      rw [Bool.eq_false_iff]; intro hn
      have := (nameB_iff s).1 hn
      omega)
    have h21 : (14 : Int) < s.size := by omega
    go_enter Tryd.func17, Tryd.ntmps17
    go_wp2
    go_ret
    exact ⟨ret_bool HN.out.symm, rfl⟩
  have h21 : ¬ (14 : Int) < s.size := by omega
  by_cases h3 : s.data.toList = [46]
  · have HN : Hid (nameB s = false) := Lib.hid (by
      rw [Bool.eq_false_iff]; intro hn
      exact ((nameB_iff s).1 hn).2.2.1 h3)
    have h31 : s.toList = [46] := by rw [toList_data]; exact h3
    clear h3
    go_enter Tryd.func17, Tryd.ntmps17
    go_wp2
    go_ret
    exact ⟨ret_bool HN.out.symm, rfl⟩
  have h31 : (s.toList == [46]) = false := by rw [toList_data]; simpa using h3
  by_cases h4 : s.data.toList = [46, 46]
  · have HN : Hid (nameB s = false) := Lib.hid (by
      rw [Bool.eq_false_iff]; intro hn
      exact ((nameB_iff s).1 hn).2.2.2.1 h4)
    have h41 : s.toList = [46, 46] := by rw [toList_data]; exact h4
    clear h3 h4
    go_enter Tryd.func17, Tryd.ntmps17
    go_wp2
    go_ret
    exact ⟨ret_bool HN.out.symm, rfl⟩
  have h41 : (s.toList == [46, 46]) = false := by rw [toList_data]; simpa using h4
  have H3 := Lib.hid h3
  have H4 := Lib.hid h4
  clear h3 h4
  go_enter Tryd.func17, Tryd.ntmps17
  go_wp2
  go_loop [3] (fun i => ∃ k : Nat, k ≤ s.size ∧ i = .int .i64 k ∧ plainB (s.data.toList.take k) = true ∧ (∀ j (h : j < s.size), j < k → s[j].toNat ≠ 47)) (fun i => s.size - (intOf i).toNat)
  case atStart => exact ⟨0, Nat.zero_le _, rfl, rfl, fun j _ h => by omega⟩
  case round =>
    obtain ⟨k, hk, rfl, hp, hq⟩ := hrel
    have HP := Lib.hid hp
    have HQ := Lib.hid hq
    clear hp hq
    by_cases hlt : k < s.size
    · have HB := Lib.hid (fun h => nameB_neg s k hlt h)
      by_cases g1 : (s[k].toNat : Int) < 32
      · go_wp2
        go_ret
        exact ⟨ret_bool (HB.out (.inl (by omega))).symm, rfl⟩
      by_cases g2 : ((s[k].toNat : Int) == 127) = true
      · go_wp2
        go_ret
        exact ⟨ret_bool (HB.out (.inr (.inl (by simp at g2; omega)))).symm, rfl⟩
      by_cases g3 : ((s[k].toNat : Int) == 47) = true
      · have g2' : ((s[k].toNat : Int) == 127) = false := by simpa using g2
        clear g2
        go_wp2
        go_ret
        exact ⟨ret_bool (HB.out (.inr (.inr (by simp at g3; omega)))).symm, rfl⟩
      have g2' : ((s[k].toNat : Int) == 127) = false := by simpa using g2
      have g3' : ((s[k].toNat : Int) == 47) = false := by simpa using g3
      have HO : Hid (okc s[k] = true) := Lib.hid (by simp at g2' g3'; simp [okc]; omega)
      have HE : Hid (s[k].toNat ≠ 47) := Lib.hid (by simp at g3'; omega)
      clear g2 g3
      go_wp2
      go_round
      case rel =>
        refine ⟨k + 1, by omega, by go_num, by rw [plain_take s k hlt, HP.out, HO.out]; rfl, fun j h hj => ?_⟩
        by_cases e : j = k
        · subst e; exact HE.out
        · exact HQ.out j h (by omega)
      case measure => simp [intOf]; omega
    · have HN : Hid (nameB s = true) := Lib.hid (by
        rw [nameB_iff]
        refine ⟨fun e => ?_, by omega, H3.out, H4.out, by rw [← plain_all s k (by omega)]; exact HP.out, fun hm => ?_⟩
        · have h9 := congrArg List.length e; rw [sz] at h9; have h8 : ([] : List UInt8).length = 0 := rfl; omega
        · obtain ⟨j, hj, he⟩ := List.getElem_of_mem hm
          have hj2 : j < s.size := by rw [← sz]; exact hj
          rw [toList_get, data_get s j hj2] at he
          exact HQ.out j hj2 (by omega) (by rw [he]; rfl))
      go_wp2
      go_ret
      exact ⟨ret_bool HN.out.symm, rfl⟩
end Go.Proofs.YtinmdegmnepheaaDoor
