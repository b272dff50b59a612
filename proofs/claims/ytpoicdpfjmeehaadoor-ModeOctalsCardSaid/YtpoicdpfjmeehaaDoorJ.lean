/- A text tells its mode. -/
import Derived.Test.YtpoicdpfjmeehaaDoorI
namespace Go.Proofs.YtpoicdpfjmeehaaDoor
open Go.RowKit

/-- The mode that a text tells. -/
def dec (l : Bytes) : Nat :=
  let on (i : Nat) (k : Nat) : Nat := let c := l.getD i 0; if c = 114 ∨ c = 119 ∨ c = 120 ∨ c = 115 ∨ c = 116 then k else 0
  on 0 256 + on 1 128 + on 2 64 + on 3 32 + on 4 16 + on 5 8 + on 6 4 + on 7 2 + on 8 1 + (if l.getD 2 0 = 115 ∨ l.getD 2 0 = 83 then 2048 else 0) + (if l.getD 8 0 = 116 ∨ l.getD 8 0 = 84 then 512 else 0)
theorem dec_all0 : ∀ hi : Fin 48, ∀ lo : Fin 64, (hi.val * 64 + lo.val) &&& 3071 = hi.val * 64 + lo.val → dec (tbs (hi.val * 64 + lo.val) 9) = hi.val * 64 + lo.val := by decide +kernel
theorem dec_all (m : Nat) (hm : m ≤ 3071) (h : m &&& 3071 = m) : dec (tbs m 9) = m := by
  have := dec_all0 ⟨m / 64, by omega⟩ ⟨m % 64, by omega⟩
  simp only [show m / 64 * 64 + m % 64 = m by omega] at this
  exact this h
theorem text_inj {k k' m m' : Nat} (hk : k ≤ 2) (hk' : k' ≤ 2) (hm : m ≤ 3071) (hm' : m' ≤ 3071) (h : m &&& 3071 = m) (h' : m' &&& 3071 = m') : textS k m = textS k' m' ↔ m = m' ∧ k = k' := by
  constructor
  · intro e
    have e1 : khead k = khead k' ∧ tbs m 9 = tbs m' 9 := by
      unfold textS at e
      exact List.cons.inj e
    refine ⟨?_, ?_⟩
    · have h1 := dec_all m hm h
      have h2 := dec_all m' hm' h'
      rw [← h1, ← h2, e1.2]
    · have h1 := e1.1
      unfold khead at h1
      obtain rfl | rfl | rfl : k = 0 ∨ k = 1 ∨ k = 2 := by omega
      all_goals obtain rfl | rfl | rfl : k' = 0 ∨ k' = 1 ∨ k' = 2 := by omega
      all_goals first | rfl | (exfalso; revert h1; decide)
  · rintro ⟨rfl, rfl⟩; rfl
end Go.Proofs.YtpoicdpfjmeehaaDoor
