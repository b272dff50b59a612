import Derived.Test.YtafonmnfeibaiaaInA
import Derived.Test.YtafonmnfeibaiaaShelf
import Derived.Lib.IndexAny
import Derived.Test.YtafonmnfeibaiaaInTie
namespace Go.Proofs.Ytafonmnfeibaiaa
open Go.RowKit


theorem plain_take (s : ByteArray) (k : Nat) (h : k < s.size) : plainB (s.data.toList.take (k + 1)) = (plainB (s.data.toList.take k) && okc s[k]) := by
  unfold plainB
  rw [List.take_succ_eq_append_getElem (by simpa using h), List.all_append]
  simp only [List.all_cons, List.all_nil, Bool.and_true]
  rfl
theorem plain_all (s : ByteArray) (k : Nat) (hk : s.size ≤ k) : s.data.toList.take k = s.data.toList := List.take_of_length_le (by simpa using hk)
theorem plain_bad (s : ByteArray) (k : Nat) (h : k < s.size) (hb : okc s[k] = false) : plainB s.data.toList = false := by
  unfold plainB
  rw [List.all_eq_false]
  exact ⟨s[k], by have : s[k] = s.data.toList[k]'(by simpa using h) := rfl
                  rw [this]; exact List.getElem_mem _, by simp [hb]⟩

set_option maxHeartbeats 400000 in
theorem plain_any (s : ByteArray) (w : World) (hs : s.size ≤ 1000000) :
    Calls Try.prog 34 #[.string s] w fun e w' => e = .returned (.bool (plainB s.data.toList)) ∧ w = w' := by
  go_enter Try.func34, Try.ntmps34
  go_wp2
  go_loop [6] (fun i => ∃ k : Nat, k ≤ s.size ∧ i = .int .i64 k ∧ plainB (s.data.toList.take k) = true) (fun i => s.size - (intOf i).toNat)
  case atStart => exact ⟨0, Nat.zero_le _, rfl, rfl⟩
  case round =>
    obtain ⟨k, hk, rfl, hp⟩ := hrel
    have HP := Lib.hid hp
    clear hp
    by_cases hlt : k < s.size
    · by_cases h1 : (s[k].toNat : Int) < 32
      · have hb : okc s[k] = false := by simp [okc]; omega
        have HB := Lib.hid hb
        clear hb
        go_wp2
        go_ret
        exact ⟨ret_bool (plain_bad s k hlt HB.out).symm, rfl⟩
      · by_cases h2 : ((s[k].toNat : Int) == 127) = true
        · have hb : okc s[k] = false := by simp at h2; simp [okc]; omega
          have HB := Lib.hid hb
          clear hb
          go_wp2
          go_ret
          exact ⟨ret_bool (plain_bad s k hlt HB.out).symm, rfl⟩
        · have h3 : ((s[k].toNat : Int) == 127) = false := by simpa using h2
          have hb : okc s[k] = true := by simp at h3; simp [okc]; omega
          have HB := Lib.hid hb
          clear hb h2
          go_wp2
          go_round
          case rel => exact ⟨k + 1, by omega, by go_num, by rw [plain_take s k hlt, HP.out, HB.out]; rfl⟩
          case measure => simp [intOf]; omega
    · go_wp2
      go_ret
      exact ⟨ret_bool (by rw [plain_all s k (by omega)] at HP; exact HP.out.symm), rfl⟩

def nameB (s : ByteArray) : Bool := decide (¬ s.data.toList = [] ∧ s.size ≤ 14 ∧ ¬ s.data.toList = [46] ∧ ¬ s.data.toList = [46, 46] ∧ plainB s.data.toList = true ∧ ¬ (0 ≤ Lib.indexByte s.data.toList 47))

theorem toList_data (s : ByteArray) : s.toList = s.data.toList := ByteArray.toList_eq s
set_option maxHeartbeats 400000 in
theorem name_any (s : ByteArray) (w : World) :
    Calls Try.prog 11 #[.string s] w fun e w' => e = .returned (.bool (nameB s)) ∧ w = w' := by
  go_enter Try.func11, Try.ntmps11
  go_wp2_with (first | (go_at_call 34; refine (plain_any _ _ (by omega)).mono ?_; rintro e w' ⟨rfl, rfl⟩) | (go_at_call 35; refine (Try.strings_Contains_one _ _ _).mono ?_; rintro e w' ⟨rfl, rfl⟩))
  all_goals (have H := Lib.hid (toList_data s))
  all_goals go_ret
  all_goals refine ⟨ret_bool ?_, rfl⟩
  all_goals simp only [H.out] at *
  · simp [nameB, *]
  · simp [nameB, *]
  · simp [nameB, *]
  · have hsz : s.size ≤ 14 := by omega
    have hne : s.data.toList.isEmpty = false := by cases hl : s.data.toList with | nil => exact absurd hl ‹_› | cons => rfl
    have e1 : (s.data.toList == [46]) = false := by simpa using ‹¬ s.data.toList = [46]›
    have e2 : (s.data.toList == [46, 46]) = false := by simpa using ‹¬ s.data.toList = [46, 46]›
    rw [hne, e1, e2, Bool.eq_iff_iff]
    simp only [nameB, decide_eq_true_eq, Bool.not_false, Bool.true_and, Bool.not_eq_true']
    constructor
    · intro h; exact ⟨‹_›, hsz, ‹_›, ‹_›, ‹_›, by simpa using h⟩
    · rintro ⟨_, _, _, _, _, h⟩; simpa using h
  · simp [nameB, *]
  · have hsz : ¬ s.size ≤ 14 := by omega
    simp [nameB, hsz]
end Go.Proofs.Ytafonmnfeibaiaa
