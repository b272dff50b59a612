import Derived.Test.YtafonmnfeibaiaaInG
namespace Go.Proofs.Ytafonmnfeibaiaa
open Go.RowKit

theorem sz (s : ByteArray) : s.data.toList.length = s.size := by simp
theorem data_get (s : ByteArray) (j : Nat) (h : j < s.size) : s.data[j]! = s[j] := by
  have h1 : j < s.data.size := h
  rw [getElem!_pos s.data j h1]; rfl
theorem toList_get (s : ByteArray) (j : Nat) (h : j < s.data.toList.length) : s.data.toList[j] = s.data[j]! := by
  have h1 : j < s.data.size := by simpa using h
  rw [getElem!_pos s.data j h1]; simp
theorem contains_idx (l : List UInt8) (c : UInt8) : l.contains c = decide (0 ≤ Lib.indexByte l c) := by
  rw [Bool.eq_iff_iff]
  simp only [List.contains_iff_mem, decide_eq_true_eq]
  constructor
  · intro hm
    have h1 := Lib.indexByte_ge l c
    rcases Int.lt_or_le (Lib.indexByte l c) 0 with h | h
    · obtain ⟨k, hk, he⟩ := List.getElem_of_mem hm
      exact absurd (by rw [List.getElem?_eq_getElem hk, he]) (Lib.indexByte_none (by omega) k)
    · exact h
  · intro h
    obtain ⟨i, hi⟩ : ∃ i : Nat, Lib.indexByte l c = i := ⟨(Lib.indexByte l c).toNat, by omega⟩
    exact List.mem_of_getElem? (Lib.indexByte_some hi).1
theorem nameB_iff (s : ByteArray) : nameB s = true ↔ (¬ s.data.toList = [] ∧ s.size ≤ 14 ∧ ¬ s.data.toList = [46] ∧ ¬ s.data.toList = [46, 46] ∧ plainB s.data.toList = true ∧ 47 ∉ s.data.toList) := by
  simp only [nameB, decide_eq_true_eq]
  have := contains_idx s.data.toList 47
  rw [Bool.eq_iff_iff] at this
  simp only [List.contains_iff_mem, decide_eq_true_eq] at this
  rw [this]

/-! ### The document's Name -/
theorem nameB_neg (s : ByteArray) (j : Nat) (hj : j < s.size) (h : s[j].toNat < 32 ∨ s[j].toNat = 127 ∨ s[j].toNat = 47) : nameB s = false := by
  rw [Bool.eq_false_iff]
  intro hn
  obtain ⟨_, _, _, _, hp, hno⟩ := (nameB_iff s).1 hn
  by_cases h1 : s[j].toNat < 32 ∨ s[j].toNat = 127
  · have : okc s[j] = false := by simp [okc]; omega
    rw [plain_bad s j hj this] at hp; cases hp
  · refine hno ?_
    have e : s[j] = 47 := UInt8.toNat_inj.1 (by have e : (47 : UInt8).toNat = 47 := rfl; omega)
    have : s.data.toList[j]'(by rw [sz]; exact hj) = 47 := by rw [toList_get, data_get s j hj, e]
    rw [← this]; exact List.getElem_mem _
set_option maxHeartbeats 400000 in
theorem rname_any (s : ByteArray) (w : World) :
    Calls Try.prog 25 #[.string s] w fun e w' => e = .returned (.bool (nameB s)) ∧ w = w' := by
  by_cases h1 : s.size < 1
  · have HN : Hid (nameB s = false) := Lib.hid (by
      rw [Bool.eq_false_iff]; intro hn
      have := (nameB_iff s).1 hn
      exact this.1 (List.eq_nil_of_length_eq_zero (by rw [sz]; omega)))
    have h11 : (s.size : Int) < 1 := by omega
    go_enter Try.func25, Try.ntmps25
    go_wp2
    go_ret
    exact ⟨ret_bool HN.out.symm, rfl⟩
  have h11 : ¬ (s.size : Int) < 1 := by omega
  by_cases h2 : 14 < s.size
  · have HN : Hid (nameB s = false) := Lib.hid (by
      rw [Bool.eq_false_iff]; intro hn
      have := (nameB_iff s).1 hn
      omega)
    have h21 : (14 : Int) < s.size := by omega
    go_enter Try.func25, Try.ntmps25
    go_wp2
    go_ret
    exact ⟨ret_bool HN.out.symm, rfl⟩
  have h21 : ¬ (14 : Int) < s.size := by omega
  by_cases h3 : s.data.toList = [46]
  · have HN : Hid (nameB s = false) := Lib.hid (by
      rw [Bool.eq_false_iff]; intro hn
      exact ((nameB_iff s).1 hn).2.2.1 h3)
    have h31 : s.toList = [46] := by rw [toList_data]; exact h3
    clear h3
    go_enter Try.func25, Try.ntmps25
    go_wp2
    go_ret
    exact ⟨ret_bool HN.out.symm, rfl⟩
  have h31 : (s.toList == [46]) = false := by rw [toList_data]; simpa using h3
  by_cases h4 : s.data.toList = [46, 46]
  · have HN : Hid (nameB s = false) := Lib.hid (by
      rw [Bool.eq_false_iff]; intro hn
      exact ((nameB_iff s).1 hn).2.2.2.1 h4)
    have h41 : s.toList = [46, 46] := by rw [toList_data]; exact h4
    clear h3 h4
    go_enter Try.func25, Try.ntmps25
    go_wp2
    go_ret
    exact ⟨ret_bool HN.out.symm, rfl⟩
  have h41 : (s.toList == [46, 46]) = false := by rw [toList_data]; simpa using h4
  have H3 := Lib.hid h3
  have H4 := Lib.hid h4
  clear h3 h4
  go_enter Try.func25, Try.ntmps25
  go_wp2
  go_loop [3] (fun i => ∃ k : Nat, k ≤ s.size ∧ i = .int .i64 k ∧ plainB (s.data.toList.take k) = true ∧ (∀ j (h : j < s.size), j < k → s[j].toNat ≠ 47)) (fun i => s.size - (intOf i).toNat)
  case atStart => exact ⟨0, Nat.zero_le _, rfl, rfl, fun j _ h => by omega⟩
  case round =>
    obtain ⟨k, hk, rfl, hp, hq⟩ := hrel
    have HP := Lib.hid hp
    have HQ := Lib.hid hq
    clear hp hq
    by_cases hlt : k < s.size
    · have HB := Lib.hid (fun h => nameB_neg s k hlt h)
      by_cases g1 : (s[k].toNat : Int) < 32
      · go_wp2
        go_ret
        exact ⟨ret_bool (HB.out (.inl (by omega))).symm, rfl⟩
      by_cases g2 : ((s[k].toNat : Int) == 127) = true
      · go_wp2
        go_ret
        exact ⟨ret_bool (HB.out (.inr (.inl (by simp at g2; omega)))).symm, rfl⟩
      by_cases g3 : ((s[k].toNat : Int) == 47) = true
      · have g2' : ((s[k].toNat : Int) == 127) = false := by simpa using g2
        clear g2
        go_wp2
        go_ret
        exact ⟨ret_bool (HB.out (.inr (.inr (by simp at g3; omega)))).symm, rfl⟩
      have g2' : ((s[k].toNat : Int) == 127) = false := by simpa using g2
      have g3' : ((s[k].toNat : Int) == 47) = false := by simpa using g3
      have HO : Hid (okc s[k] = true) := Lib.hid (by simp at g2' g3'; simp [okc]; omega)
      have HE : Hid (s[k].toNat ≠ 47) := Lib.hid (by simp at g3'; omega)
      clear g2 g3
      go_wp2
      go_round
      case rel =>
        refine ⟨k + 1, by omega, by go_num, by rw [plain_take s k hlt, HP.out, HO.out]; rfl, fun j h hj => ?_⟩
        by_cases e : j = k
        · subst e; exact HE.out
        · exact HQ.out j h (by omega)
      case measure => simp [intOf]; omega
    · have HN : Hid (nameB s = true) := Lib.hid (by
        rw [nameB_iff]
        refine ⟨fun e => ?_, by omega, H3.out, H4.out, by rw [← plain_all s k (by omega)]; exact HP.out, fun hm => ?_⟩
        · have h9 := congrArg List.length e; rw [sz] at h9; have h8 : ([] : List UInt8).length = 0 := rfl; omega
        · obtain ⟨j, hj, he⟩ := List.getElem_of_mem hm
          have hj2 : j < s.size := by rw [← sz]; exact hj
          rw [toList_get, data_get s j hj2] at he
          exact HQ.out j hj2 (by omega) (by rw [he]; rfl))
      go_wp2
      go_ret
      exact ⟨ret_bool HN.out.symm, rfl⟩
theorem rname_ok (s : ByteArray) (w : World) : Calls Try.prog 25 #[.string s] w fun e w' => e = .returned (.bool (okN (bs s))) ∧ w = w' := by
  rw [← nameB_ok]; exact rname_any s w
end Go.Proofs.Ytafonmnfeibaiaa
