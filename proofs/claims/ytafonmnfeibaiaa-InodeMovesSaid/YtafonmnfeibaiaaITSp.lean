/- A tree of inodes, plain: those whose losses are pending stay; how many there are. No program in sight. -/
import Derived.Test.YtafonmnfeibaiaaITTj
import Derived.Test.YtafonmnfeibaiaaITRk
namespace Go.Proofs.Ytafonmnfeibaiaa.IT
open Go.RowKit Classical

/-- Some go, one after another, none whose loss is pending. -/
inductive StepsP (pend : Nat → Nat) : Tr → Tr → Prop
  | refl {S : Tr} : StepsP pend S S
  | step {S A : Tr} {i : Nat} : can S i → pend i = 0 → StepsP pend (rem S i) A → StepsP pend S A
theorem StepsP.trans {pend : Nat → Nat} {S A B : Tr} (h : StepsP pend S A) (h2 : StepsP pend A B) : StepsP pend S B := by
  induction h with
  | refl => exact h2
  | step hc hp _ ih => exact .step hc hp (ih h2)
theorem StepsP.mono {pend pend' : Nat → Nat} (hpp : ∀ i, pend' i = 0 → pend i = 0) {S A : Tr} (h : StepsP pend' S A) : StepsP pend S A := by
  induction h with
  | refl => exact .refl
  | step hc hp _ ih => exact .step hc (hpp _ hp) ih
theorem StepsP.steps {pend : Nat → Nat} {S A : Tr} (h : StepsP pend S A) : Steps S A := by
  induction h with
  | refl => exact .refl
  | step hc _ _ ih => exact .step hc ih
theorem StepsP.keep {pend : Nat → Nat} {S A : Tr} (h : StepsP pend S A) {k : Nat} (hp : pend k ≠ 0) : ∀ {n : Nd}, S k = some n → ∃ m, A k = some m := by
  induction h with
  | refl => exact fun {n} hk => ⟨n, hk⟩
  | step _ hz _ ih =>
    intro n hk
    obtain ⟨m, hm, _⟩ := rem_some hk (fun e => hp (by rw [e]; exact hz))
    exact ih hm
/-- How many there are. -/
noncomputable def one1 (S : Tr) (k : Nat) : Nat := if S k = none then 0 else 1
noncomputable def cnt (S : Tr) : Nat := ((List.range 201).map (one1 S)).sum
theorem rem_none {S : Tr} {i j : Nat} : rem S i j = none ↔ j = i ∨ S j = none := by
  unfold rem
  by_cases e : j = i
  · rw [if_pos e]; simp [e]
  · rw [if_neg e]
    split
    · simp [e]
    · cases S j <;> simp [e]
theorem cnt_rem {S : Tr} {i : Nat} (hi : i ≤ 200) (hS : S i ≠ none) : cnt (rem S i) < cnt S := by
  unfold cnt
  refine sum_lt (a := i) _ (fun k _ => ?_) (by simp; omega) ?_
  · unfold one1
    by_cases e : S k = none
    · rw [if_pos e, if_pos (rem_none.2 (.inr e))]; omega
    · rw [if_neg e]; split <;> omega
  · unfold one1
    rw [if_pos (rem_none.2 (.inl rfl)), if_neg hS]; omega
theorem Steps.cnt {S A : Tr} (h : Steps S A) : cnt A ≤ cnt S := by
  induction h with
  | refl => exact Nat.le_refl _
  | @step S A i hc _ ih =>
    obtain ⟨n, hn, _⟩ := hc.2.2.1
    have hne : S i ≠ none := by rw [hn]; intro e; cases e
    have := cnt_rem hc.2.1 hne
    omega
/-- What gone does: none can go but whose losses are pending; those stay. -/
def goneP (pend : Nat → Nat) (S S' : Tr) : Prop := StepsP pend S S' ∧ Only S' pend
/-- It stays. -/
theorem gone_stay {pend : Nat → Nat} {S : Tr} {i : Nat} (h : ∀ k, can S k → pend k ≠ 0 ∨ k = i) (hi : ¬ can S i ∨ pend i ≠ 0) : goneP pend S S := ⟨.refl, Only.stay h hi⟩
/-- It goes, and then what it led to. -/
theorem gone_goes {pend : Nat → Nat} {S S' : Tr} {i : Nat} (hc : can S i) (hz : pend i = 0) (h : goneP pend (rem S i) S') : goneP pend S S' := ⟨.step hc hz h.1, h.2⟩
/-- One of what it led to after another. -/
theorem gone_next {base : Nat → Nat} {l : List (Bytes × Nat)} {S A B : Tr} (h1 : goneP (fun x => base x + pendL l x) S A) (h2 : StepsP base A B) : StepsP base S B := by
  refine StepsP.trans (h1.1.mono fun i hi => ?_) h2
  have : base i + pendL l i = 0 := hi
  omega
/-- When nothing is pending: what is left. -/
theorem gone_nf {S S' : Tr} (h : goneP calm S S') : NF S S' := h.1.steps.nf fun i hi => h.2 i hi rfl
end Go.Proofs.Ytafonmnfeibaiaa.IT
