/- A tree of inodes, plain: what is left, when one sees who can go. No program in sight. -/
import Derived.Test.YtafonmnfeibaiaaITTv
namespace Go.Proofs.Ytafonmnfeibaiaa.IT
open Go.RowKit

def canB (S : Tr) (i : Nat) : Bool := decide (i ≠ 1) && ((match S i with
  | none => false
  | some n => decide (n.holds = 0)) && decide (lnk S i = 0))
theorem can_iff {S : Tr} {i : Nat} : can S i ↔ i ≤ 200 ∧ canB S i = true := by
  unfold can canB
  cases hS : S i with
  | none => simp
  | some n =>
    simp only [Option.some.injEq, exists_eq_left', Bool.and_eq_true, decide_eq_true_eq]
    constructor
    · rintro ⟨a, b, c, d⟩; exact ⟨b, a, c, d⟩
    · rintro ⟨b, a, c, d⟩; exact ⟨a, b, c, d⟩
theorem no_can {S : Tr} (h : ∀ i, i ≤ 200 → canB S i = false) (i : Nat) : ¬ can S i := fun hc => by
  obtain ⟨h1, h2⟩ := can_iff.1 hc
  rw [h i h1] at h2; cases h2
theorem no_can_list {S : Tr} (h : (List.range 201).all (fun i => !canB S i) = true) (i : Nat) : ¬ can S i := by
  refine no_can (fun j hj => ?_) i
  have := List.all_eq_true.1 h j (by simp; omega)
  simpa using this
/-- Nobody goes. -/
theorem nf_stay {S S' : Tr} (h : NF S S') (hn : ∀ i, ¬ can S i) : S' = S := (NF.unique (.done hn) h).symm
/-- One goes, and nobody then. -/
theorem nf_one {S S' : Tr} {i : Nat} (h : NF S S') (hi : can S i) (hn : ∀ j, ¬ can (rem S i) j) : S' = rem S i := (NF.unique (.step hi (.done hn)) h).symm
end Go.Proofs.Ytafonmnfeibaiaa.IT
