/- What Parse answers, plain. -/
import Derived.Test.YtmfbmjnoepcigaaGreatDoorQ
namespace Go.Proofs.YtmfbmjnoepcigaaGreatDoor
open Go.RowKit

theorem parseL_err : ∀ (k : Nat) (t : Bytes) (L : List UserS) (n m : Nat) (e : Int), t.length ≤ k → parseL L n t = .error (m, e) → n ≤ m ∧ (e = 17 ∨ e = 5 ∨ e = 12)
  | k, t, L, n, m, e, hk, h => by
    by_cases ht : t = []
    · subst ht; rw [parseL_nil] at h; cases h
    · rw [parseL, dif_neg ht] at h
      cases hr : readO (lineOf t) with
      | none => rw [hr] at h; cases h; exact ⟨Nat.le_refl _, .inl rfl⟩
      | some u =>
        rw [hr] at h
        simp only at h
        split at h
        · cases h; exact ⟨Nat.le_refl _, .inl rfl⟩
        · split at h
          · cases h; exact ⟨Nat.le_refl _, .inr (.inl rfl)⟩
          · split at h
            · cases h; exact ⟨Nat.le_refl _, .inr (.inr rfl)⟩
            · have hlt := restOf_lt ht
              match k, hk with
              | 0, hk => exact absurd (List.length_eq_zero_iff.1 (by omega)) ht
              | k + 1, hk =>
                obtain ⟨h1, h2⟩ := parseL_err k _ _ _ _ _ (by omega) h
                exact ⟨by omega, h2⟩
theorem parse_cases (t : Bytes) : (4096 < t.length ∧ parseR t = ([], 0, 10)) ∨ (∃ n e, 1 ≤ n ∧ (e = 17 ∨ e = 5 ∨ e = 12) ∧ parseR t = ([], n, e)) ∨ (∃ L, t.length ≤ 4096 ∧ parseL [] 1 t = .ok L ∧ parseR t = (L, 0, 0)) := by
  by_cases h : 4096 < t.length
  · exact .inl ⟨h, parse_long h⟩
  · cases hp : parseL [] 1 t with
    | ok L => exact .inr (.inr ⟨L, by omega, rfl, parse_ok h hp⟩)
    | error p =>
      obtain ⟨n, e⟩ := p
      obtain ⟨h1, h2⟩ := parseL_err t.length t [] 1 n e (Nat.le_refl _) hp
      exact .inr (.inl ⟨n, e, h1, h2, parse_err h hp⟩)
theorem may_sz {u : UserS} (h : mayB u = true) : SzU u := by
  have hl := line_len h
  unfold lineB at hl
  simp only [List.length_append, List.length_cons] at hl
  have h1 := sz u.name
  have h2 := sz u.pass
  have h3 := sz u.home
  have h4 := sz u.shell
  exact ⟨by omega, by omega, by omega, by omega⟩
theorem print_of {s : ByteArray} {L : List UserS} (h : RightU L) (hp : printB L = s.data.toList) : printS L = s := by
  unfold printS
  rw [if_pos ((rightB_iff L).2 h), hp]
/-- The text twice. -/
theorem twice_cases {s : ByteArray} {L : List UserS} (h : parseL [] 1 s.data.toList = .ok L) : (s.size = 0 ∧ parseR (s ++ s).data.toList = ([], 0, 0)) ∨ (s.size ≠ 0 ∧ 4096 < 2 * s.size ∧ parseR (s ++ s).data.toList = ([], 0, 10)) ∨ (s.size ≠ 0 ∧ 2 * s.size ≤ 4096 ∧ parseR (s ++ s).data.toList = ([], L.length + 1, 5)) := by
  have e : (s ++ s).data.toList = s.data.toList ++ s.data.toList := by rw [ByteArray.data_append, Array.toList_append]
  have hl : (s.data.toList ++ s.data.toList).length = 2 * s.size := by rw [List.length_append, sz]; omega
  rw [e]
  by_cases h0 : s.size = 0
  · have hn : s.data.toList = [] := List.length_eq_zero_iff.1 (by rw [sz]; exact h0)
    exact .inl ⟨h0, by rw [hn]; exact parse_ok (by simp) (parseL_nil _ _)⟩
  · by_cases h1 : 4096 < 2 * s.size
    · exact .inr (.inl ⟨h0, h1, parse_long (by rw [hl]; exact h1)⟩)
    · refine .inr (.inr ⟨h0, by omega, parse_err (by rw [hl]; exact h1) (parse_twice h fun hh => h0 ?_)⟩)
      rw [← sz, hh]; rfl
end Go.Proofs.YtmfbmjnoepcigaaGreatDoor
