import Derived.Test.YtmfbmjnoepcigaaGreatDoorPd
namespace Go.Proofs.YtmfbmjnoepcigaaGreatDoor.Pp
open Go.RowKit

set_option maxHeartbeats 400000 in
theorem split_any (s : ByteArray) (w : World) (hs : s.size ≤ 140737488351232) : Calls Tryz.prog 54 #[.string s] w (splitPost s w) := by
  by_cases h0 : s.data.toList = []
  · have h1 : s.toList = [] := by rw [toList_data]; exact h0
    have HF : Hid (splitS s.data.toList = (false, false, [], 3)) := Lib.hid (by rw [splitS, if_pos h0])
    clear h0
    go_enter Tryz.func54, Tryz.ntmps54
    go_wp2
    exact bodyPost_ret (v := .tuple #[.agg #[.bool false, .slice none 0 0, .bool false], .int .i64 3]) (by simp [results, Tryz.results44, go_sem]) rfl ⟨false, false, .slice none 0 0, [], 3, rfl, ⟨rfl, .inl ⟨rfl, rfl⟩⟩, ((Below.refl _ _).alloc (Nat.le_refl _) _).alloc (by simp) _, HF.out⟩
  · by_cases hb : s.size ≤ 128
    · exact split_main s w h0 hb
    · have h1 : s.toList.isEmpty = false := by rw [toList_data]; cases hh : s.data.toList with | nil => exact absurd hh h0 | cons => rfl
      have hb1 : (128 : Int) < s.size := by omega
      have HF : Hid (splitS s.data.toList = (false, false, [], 10)) := Lib.hid (split_long h0 (.inl (by rw [sz]; omega)))
      clear h0
      go_enter Tryz.func54, Tryz.ntmps54
      go_wp2
      exact bodyPost_ret (v := .tuple #[.agg #[.bool false, .slice none 0 0, .bool false], .int .i64 10]) (by simp [results, Tryz.results44, go_sem]) rfl ⟨false, false, .slice none 0 0, [], 10, rfl, ⟨rfl, .inl ⟨rfl, rfl⟩⟩, ((Below.refl _ _).alloc (Nat.le_refl _) _).alloc (by simp) _, HF.out⟩
end Go.Proofs.YtmfbmjnoepcigaaGreatDoor.Pp
