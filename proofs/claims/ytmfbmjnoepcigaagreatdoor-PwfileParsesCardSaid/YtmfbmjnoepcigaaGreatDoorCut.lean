/- Cut at one byte. -/
import Derived.Test.YtmfbmjnoepcigaaGreatDoorPlain
import Derived.Test.YtmfbmjnoepcigaaGreatDoorShelf
import Derived.WalkKit
import Derived.WalkLawsBesides
import Derived.WalkSpells
import Derived.Outline
import Derived.Below
import Derived.Lib.Hide
import Derived.BigQuiet
import Derived.Deep.QuietTactic
namespace Go.Proofs.YtmfbmjnoepcigaaGreatDoor
open Go.RowKit

theorem idx_cases : ∀ (l : Bytes) (c : UInt8), Lib.indexByte l c = -1 ∨ ∃ i : Nat, Lib.indexByte l c = i
  | [], _ => .inl rfl
  | b :: l, c => by
    unfold Lib.indexByte
    split
    · exact .inr ⟨0, rfl⟩
    · split
      · exact .inl rfl
      · rcases idx_cases l c with h | ⟨i, h⟩
        · rename_i h2; rw [h] at h2; exact absurd rfl h2
        · exact .inr ⟨i + 1, by rw [h]; rfl⟩
theorem at_d {d : UInt8} {l : Bytes} {i : Nat} (h : Lib.indexByte l d = i) : i < l.length ∧ d ∉ l.take i ∧ l = l.take i ++ d :: l.drop (i + 1) := by
  obtain ⟨h1, h2⟩ := Lib.indexByte_some h
  obtain ⟨hi, h3⟩ := List.getElem?_eq_some_iff.1 h1
  refine ⟨hi, fun hm => ?_, ?_⟩
  · obtain ⟨k, hk, he⟩ := List.getElem_of_mem hm
    rw [List.getElem_take] at he
    have hk' : k < i := by simp at hk; omega
    exact h2 k hk' (by rw [List.getElem?_eq_getElem (by omega), he])
  · conv => lhs; rw [← List.take_append_drop i l]
    rw [List.drop_eq_getElem_cons hi, h3]
theorem no_d {d : UInt8} {l : Bytes} (h : Lib.indexByte l d = -1) : d ∉ l := fun hm => by
  obtain ⟨k, hk, he⟩ := List.getElem_of_mem hm
  exact Lib.indexByte_none h k (by rw [List.getElem?_eq_getElem hk, he])
theorem ex_data (s : ByteArray) (a b : Nat) : (s.extract a b).data.toList = (s.data.toList.take b).drop a := by
  rw [ByteArray.data_extract, Array.toList_extract, List.extract_eq_take_drop, List.drop_take]
theorem sz (s : ByteArray) : s.data.toList.length = s.size := by simp
theorem toList_data (s : ByteArray) : s.toList = s.data.toList := ByteArray.toList_eq s

set_option maxHeartbeats 1000000 in
theorem cutl_some (d : UInt8) (s : ByteArray) (w : World) (i : Nat) (hi : Lib.indexByte s.data.toList d = i) (hs : s.size ≤ 140737488351232) :
    Calls Tryz.prog 34 #[.string s, .string ⟨#[d]⟩] w fun e w' => e = .returned (.tuple #[.string (s.extract 0 i), .string (s.extract (i + 1) s.size), .bool true]) ∧ ∃ n, w' = w.drewN n := by
  have hs1 : (s.size : Int) ≤ 140737488351232 := by omega
  have h1 := (at_d hi).1
  rw [sz] at h1
  have h1i : (i : Int) + 1 ≤ s.size := by omega
  have h1j : (i : Int) ≤ s.size := by omega
  have h1k : (0 : Int) ≤ (i : Int) + 1 := by omega
  have h1l : ((i : Int) + 1).toNat = i + 1 := by omega
  have HI := Lib.hid hi
  clear hi
  go_enter Tryz.func34, Tryz.ntmps34
  go_wp2_with fail
  refine (Tryz.stringslite_Index_one s d _).mono ?_
  rintro e w' ⟨rfl, rfl⟩
  rw [HI.out]
  go_wp2_with fail
  go_region
  go_wp2
  exact bodyPost_ret (v := .tuple #[.string (s.extract 0 i), .string (s.extract (i + 1) s.size), .bool true]) (by simp [results, Tryz.results25, go_sem]) rfl ⟨rfl, 1, rfl⟩
set_option maxHeartbeats 1000000 in
theorem cutl_none (d : UInt8) (s : ByteArray) (w : World) (hi : Lib.indexByte s.data.toList d = -1) :
    Calls Tryz.prog 34 #[.string s, .string ⟨#[d]⟩] w fun e w' => e = .returned (.tuple #[.string s, .string ⟨#[]⟩, .bool false]) ∧ ∃ n, w' = w.drewN n := by
  have HI := Lib.hid hi
  clear hi
  go_enter Tryz.func34, Tryz.ntmps34
  go_wp2_with fail
  refine (Tryz.stringslite_Index_one s d _).mono ?_
  rintro e w' ⟨rfl, rfl⟩
  rw [HI.out]
  go_wp2
  exact bodyPost_ret (v := .tuple #[.string s, .string ⟨#[]⟩, .bool false]) (by simp [results, Tryz.results25, go_sem]) rfl ⟨rfl, 0, rfl⟩
theorem cut_some (d : UInt8) (s : ByteArray) (w : World) (i : Nat) (hi : Lib.indexByte s.data.toList d = i) (hs : s.size ≤ 140737488351232) :
    Calls Tryz.prog 21 #[.string s, .string ⟨#[d]⟩] w fun e w' => e = .returned (.tuple #[.string (s.extract 0 i), .string (s.extract (i + 1) s.size), .bool true]) ∧ ∃ n, w' = w.drewN n := by
  have HI := Lib.hid hi
  clear hi
  go_enter Tryz.func21, Tryz.ntmps21
  go_wp2_with fail
  refine (cutl_some d s _ i HI.out hs).mono ?_
  rintro e w' ⟨rfl, n, rfl⟩
  go_wp2
  exact bodyPost_ret (v := .tuple #[.string (s.extract 0 i), .string (s.extract (i + 1) s.size), .bool true]) (by simp [results, Tryz.results15, go_sem]) rfl ⟨rfl, n, rfl⟩
theorem cut_none (d : UInt8) (s : ByteArray) (w : World) (hi : Lib.indexByte s.data.toList d = -1) :
    Calls Tryz.prog 21 #[.string s, .string ⟨#[d]⟩] w fun e w' => e = .returned (.tuple #[.string s, .string ⟨#[]⟩, .bool false]) ∧ ∃ n, w' = w.drewN n := by
  have HI := Lib.hid hi
  clear hi
  go_enter Tryz.func21, Tryz.ntmps21
  go_wp2_with fail
  refine (cutl_none d s _ HI.out).mono ?_
  rintro e w' ⟨rfl, n, rfl⟩
  go_wp2
  exact bodyPost_ret (v := .tuple #[.string s, .string ⟨#[]⟩, .bool false]) (by simp [results, Tryz.results15, go_sem]) rfl ⟨rfl, n, rfl⟩
def CutPost (d : UInt8) (s : ByteArray) (w : World) (e : Ending) (w' : World) : Prop :=
  ∃ (a b : ByteArray) (ok : Bool), e = .returned (.tuple #[.string a, .string b, .bool ok]) ∧ (∃ k, w' = w.drewN k) ∧ a.size ≤ s.size ∧ b.size ≤ s.size ∧
    ((ok = true ∧ s.data.toList = a.data.toList ++ d :: b.data.toList ∧ d ∉ a.data.toList) ∨ (ok = false ∧ d ∉ s.data.toList ∧ a = s ∧ b = ⟨#[]⟩))
theorem cut_any (d : UInt8) (s : ByteArray) (w : World) (hs : s.size ≤ 140737488351232) : Calls Tryz.prog 21 #[.string s, .string ⟨#[d]⟩] w (CutPost d s w) := by
  rcases idx_cases s.data.toList d with hi | ⟨i, hi⟩
  · refine (cut_none d s w hi).mono ?_
    rintro e w' ⟨rfl, hk⟩
    exact ⟨s, ⟨#[]⟩, false, rfl, hk, Nat.le_refl _, Nat.zero_le _, .inr ⟨rfl, no_d hi, rfl, rfl⟩⟩
  · refine (cut_some d s w i hi hs).mono ?_
    rintro e w' ⟨rfl, hk⟩
    obtain ⟨h1, h2, h3⟩ := at_d hi
    exact ⟨_, _, true, rfl, hk, by rw [ByteArray.size_extract]; exact Nat.le_trans (Nat.sub_le _ _) (Nat.min_le_right _ _), by rw [ByteArray.size_extract]; exact Nat.le_trans (Nat.sub_le _ _) (Nat.min_le_right _ _), .inl ⟨rfl, by
        rw [ex_data, ex_data, List.drop_zero, show s.data.toList.take s.size = s.data.toList from List.take_of_length_le (by rw [sz]; exact Nat.le_refl _)]; exact h3, by rw [ex_data, List.drop_zero]; exact h2⟩⟩
end Go.Proofs.YtmfbmjnoepcigaaGreatDoor
