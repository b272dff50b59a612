/- Plain: a text's lines by their places. -/
import Derived.Test.YtmfbmjnoepcigaaGreatDoorRi
import Derived.Test.YtmfbmjnoepcigaaGreatDoorM
namespace Go.Proofs.YtmfbmjnoepcigaaGreatDoor
open Go.RowKit

def NoTen (s : ByteArray) (f k : Nat) : Prop := ∀ j (h : j < s.size), f ≤ j → j < k → s[j] ≠ 10
theorem NoTen.start (s : ByteArray) (f : Nat) : NoTen s f f := fun j _ h1 h2 => by omega
theorem NoTen.next {s : ByteArray} {f k : Nat} (h : NoTen s f k) (hk : k < s.size) (hc : s[k] ≠ 10) : NoTen s f (k + 1) := fun j hj h1 h2 => by
  by_cases e : j = k
  · subst e; exact hc
  · exact h j hj h1 (by omega)
theorem NoTen.not {s : ByteArray} {f k : Nat} (h : NoTen s f k) : 10 ∉ (s.extract f k).data.toList := fun hm => by
  rw [ex_data] at hm
  obtain ⟨j, hj, he⟩ := List.getElem_of_mem hm
  rw [List.length_drop, List.length_take, sz] at hj
  rw [List.getElem_drop, List.getElem_take] at he
  have hlt : f + j < s.size := by omega
  have hg := get_at s (f + j) hlt
  rw [List.getElem?_eq_getElem (by rw [sz]; exact hlt)] at hg
  exact h (f + j) hlt (by omega) (by omega) (by rw [← Option.some.inj hg]; exact he)
theorem ten_cut {s : ByteArray} {f k : Nat} (hf : f ≤ k) (hk : k < s.size) (hc : s[k] = 10) :
    (s.extract f s.size).data.toList = (s.extract f k).data.toList ++ 10 :: (s.extract (k + 1) s.size).data.toList := by
  rw [ex_data, ex_data, ex_data]
  have e : s.data.toList.take s.size = s.data.toList := List.take_of_length_le (by rw [sz]; exact Nat.le_refl _)
  have hkl : k < s.data.toList.length := by rw [sz]; exact hk
  have hg : s.data.toList[k] = s[k] := by have := get_at s k hk; rw [List.getElem?_eq_getElem hkl] at this; exact Option.some.inj this
  have h2 : s.data.toList = s.data.toList.take k ++ 10 :: s.data.toList.drop (k + 1) := by
    have h3 := (List.take_append_drop k s.data.toList).symm
    rw [List.drop_eq_getElem_cons hkl, hg, hc] at h3
    exact h3
  rw [e]
  conv => lhs; rw [h2]
  rw [List.drop_append_of_le_length (by rw [List.length_take, sz]; omega)]
theorem ex_size (s : ByteArray) (f : Nat) : (s.extract f s.size).size = s.size - f := by
  rw [← sz, ex_data, List.length_drop, List.length_take, sz, Nat.min_self]
theorem round_no {s : ByteArray} {f k : Nat} {L : List UserS} {n : Nat} (hf : f ≤ k) (hk : k ≤ s.size) (h0 : f < s.size) (hn : NoTen s f k)
    (hk10 : ∀ h : k < s.size, s[k] = 10) (h : (∀ v, ¬ IsLine (s.extract f k).data.toList v) ∨ k = s.size) : parseL L n (s.extract f s.size).data.toList = .error (n, 17) := by
  have hts : 0 < (s.extract f s.size).size := by rw [ex_size]; omega
  by_cases hlt : k < s.size
  · exact round_bad (ok := true) hts (.inl ⟨rfl, ten_cut hf hlt (hk10 hlt), hn.not⟩) (.inl (by rcases h with h | h <;> first | exact h | omega))
  · obtain rfl : k = s.size := by omega
    exact round_bad (ok := false) hts (.inr ⟨rfl, hn.not, rfl, rfl⟩) (.inr rfl)
end Go.Proofs.YtmfbmjnoepcigaaGreatDoor
