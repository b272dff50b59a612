/- A list's beginning. -/
import Derived.Test.YtmfbmjnoepcigaaGreatDoorR
namespace Go.Proofs.YtmfbmjnoepcigaaGreatDoor
open Go.RowKit

theorem InU.take {w : World} {a : Option Addr} {c : Nat} {L : List UserS} (h : InU w (.slice a L.length c) L) (k : Nat) : InU w (.slice a (L.take k).length c) (L.take k) := by
  obtain ⟨a', c', hv, hc⟩ := h
  obtain ⟨rfl, rfl⟩ : a = a' ∧ c = c' := by simp at hv; exact ⟨hv.1, hv.2⟩
  refine ⟨a, c, rfl, fun j hj => ?_⟩
  have hj2 : j < L.length := by rw [List.length_take] at hj; omega
  obtain ⟨b, off, hb, h⟩ := hc j hj2
  exact ⟨b, off, hb, fun i hi => by rw [h i hi, List.getElem_take]⟩
theorem findU_snoc (p : UserS → Bool) (f : UserS) : ∀ (l : List UserS) (i : Nat), findU p (l ++ [f]) i = if findU p l i < 0 then (if p f = true then ((i + l.length : Nat) : Int) else -1) else findU p l i
  | [], i => by simp [findU]
  | g :: l, i => by
    rw [List.cons_append, findU, findU]
    by_cases hp : p g = true
    · rw [if_pos hp, if_pos hp, if_neg (by omega)]
    · rw [if_neg hp, if_neg hp]
      have := findU_snoc p f l (i + 1)
      have e : ((i : Int) + 1) = ((i + 1 : Nat) : Int) := by omega
      rw [e, this, List.length_cons]
      rw [show i + 1 + l.length = i + (l.length + 1) by omega]
theorem findU_take {p : UserS → Bool} {L : List UserS} {k : Nat} (hk : k < L.length) : findU p (L.take (k + 1)) 0 = if findU p (L.take k) 0 < 0 then (if p L[k] = true then (k : Int) else -1) else findU p (L.take k) 0 := by
  rw [List.take_succ_eq_append_getElem hk]
  have h := findU_snoc p L[k] (L.take k) 0
  rw [show ((0 : Nat) : Int) = 0 from rfl] at h
  rw [h, List.length_take, Nat.min_eq_left (by omega), Nat.zero_add]
theorem findU_lt (p : UserS → Bool) (L : List UserS) : findU p L 0 = -1 ∨ (0 ≤ findU p L 0 ∧ findU p L 0 < L.length) := by
  rcases findU_cases p L with ⟨h, _⟩ | ⟨k, hk, _, _, h⟩
  · exact .inl h
  · rw [h]; exact .inr ⟨by omega, by omega⟩
theorem findU_none' {p : UserS → Bool} {L : List UserS} (h : ∀ f ∈ L, p f = false) : findU p L 0 = -1 := findU_none L 0 h
theorem findU_first {p : UserS → Bool} {L : List UserS} {k : Nat} (hk : k < L.length) (h1 : p L[k] = true) (h2 : ∀ j (hj : j < k), p (L[j]'(by omega)) = false) : findU p L 0 = k := by
  rcases findU_cases p L with ⟨_, h⟩ | ⟨j, hj, h3, h4, h5⟩
  · rw [h _ (List.getElem_mem hk)] at h1; cases h1
  · rw [h5]
    rcases Nat.lt_trichotomy j k with hl | hl | hl
    · rw [h2 j hl] at h3; cases h3
    · rw [hl]
    · rw [h4 k hl] at h1; cases h1
/-- What was found, as the law asks of it. -/
def FoundQ (p : UserS → Bool) (L : List UserS) (u : UserS) (ok : Bool) : Prop := (ok = true ∧ ∃ k : Nat, ∃ h : k < L.length, L[k] = u ∧ findU p L 0 = k) ∨ (ok = false ∧ findU p L 0 = -1)
theorem found_form {p : UserS → Bool} {L : List UserS} {w w' : World} {e : Ending} (h : FoundP p L w e w') : ∃ (u : UserS) (ok : Bool), e = .returned (.tuple #[.agg (userC u), .bool ok]) ∧ Below w.heap.size w w' ∧ FoundQ p L u ok := by
  obtain ⟨hb, ⟨k, hk, h1, h2, rfl⟩ | ⟨h1, rfl⟩⟩ := h
  · exact ⟨_, true, rfl, hb, .inl ⟨rfl, k, hk, rfl, findU_first hk h1 h2⟩⟩
  · exact ⟨_, false, rfl, hb, .inr ⟨rfl, findU_none' h1⟩⟩
end Go.Proofs.YtmfbmjnoepcigaaGreatDoor
