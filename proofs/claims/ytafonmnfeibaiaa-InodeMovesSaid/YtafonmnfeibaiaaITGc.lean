/- A tree of inodes, plain: what nobody holds and nothing leads to goes, in whatever order: the same is left. No program in sight. -/
import Derived.RowKit
namespace Go.Proofs.Ytafonmnfeibaiaa.IT
open Go.RowKit

abbrev Bytes := List UInt8
/-- An inode, plain: its links are counted, not kept. -/
structure Nd where
  kind : Int
  mode : Int
  owner : Int
  group : Int
  tty : Int
  holds : Nat
  data : Bytes
  names : List (Bytes × Nat)
  parent : Nat
deriving DecidableEq
abbrev Tr := Nat → Option Nd
def lead (x : Nat) (n : Nd) : Nat := (n.names.filter fun p => decide (p.2 = x)).length
def leadO (x : Nat) (o : Option Nd) : Nat := match o with
  | none => 0
  | some n => lead x n
/-- How many entries lead to an inode. -/
def lnk (S : Tr) (x : Nat) : Nat := ((List.range 201).map fun k => leadO x (S k)).sum
def alone (x : Nat) (n : Nd) : Nd := if n.kind = 1 then { n with parent := x } else n
theorem alone_names (x : Nat) (n : Nd) : (alone x n).names = n.names := by unfold alone; split <;> rfl
theorem alone_kind (x : Nat) (n : Nd) : (alone x n).kind = n.kind := by unfold alone; split <;> rfl
theorem alone_holds (x : Nat) (n : Nd) : (alone x n).holds = n.holds := by unfold alone; split <;> rfl
theorem alone_alone (x : Nat) (n : Nd) : alone x (alone x n) = alone x n := by
  unfold alone
  by_cases h : n.kind = 1
  · simp [h]
  · simp [h]
/-- An inode goes: its directories stand alone. -/
def rem (S : Tr) (i : Nat) : Tr := fun j => if j = i then none else if leadO j (S i) = 0 then S j else (S j).map (alone j)
/-- It may go. -/
def can (S : Tr) (i : Nat) : Prop := i ≠ 1 ∧ i ≤ 200 ∧ (∃ n, S i = some n ∧ n.holds = 0) ∧ lnk S i = 0
theorem lead_map (x : Nat) (S : Tr) (i j : Nat) : leadO x (rem S i j) = if j = i then 0 else leadO x (S j) := by
  unfold rem
  by_cases h : j = i
  · rw [if_pos h, if_pos h]; rfl
  · rw [if_neg h, if_neg h]
    by_cases h2 : leadO j (S i) = 0
    · rw [if_pos h2]
    · rw [if_neg h2]
      cases S j with
      | none => rfl
      | some n => show lead x (alone j n) = lead x n; unfold lead; rw [alone_names]
theorem sum_le {f g : Nat → Nat} : ∀ (l : List Nat), (∀ k ∈ l, f k ≤ g k) → (l.map f).sum ≤ (l.map g).sum
  | [], _ => Nat.le_refl _
  | a :: l, h => by
    simp only [List.map_cons, List.sum_cons]
    have h1 := h a (by simp)
    have h2 := sum_le l (fun k hk => h k (by simp [hk]))
    omega
theorem lnk_rem_le (S : Tr) (i x : Nat) : lnk (rem S i) x ≤ lnk S x := sum_le _ (fun k _ => by rw [lead_map]; split <;> omega)
theorem sum_zero {f : Nat → Nat} : ∀ (l : List Nat), (l.map f).sum = 0 → ∀ k ∈ l, f k = 0
  | [], _, k, hk => by cases hk
  | a :: l, h, k, hk => by
    simp only [List.map_cons, List.sum_cons] at h
    rcases List.mem_cons.1 hk with rfl | hk
    · omega
    · exact sum_zero l (by omega) k hk
theorem none_lead {S : Tr} {x : Nat} (h : lnk S x = 0) {k : Nat} (hk : k ≤ 200) : leadO x (S k) = 0 := sum_zero _ h k (by simp; omega)
theorem rem_keep {S : Tr} {i j : Nat} (hi : i ≤ 200) (hj : lnk S j = 0) (hne : j ≠ i) : rem S i j = S j := by
  unfold rem
  rw [if_neg hne, if_pos (none_lead hj hi)]
theorem can_rem {S : Tr} {i j : Nat} (hi : can S i) (hj : can S j) (hne : j ≠ i) : can (rem S i) j := by
  refine ⟨hj.1, hj.2.1, ?_, ?_⟩
  · rw [rem_keep hi.2.1 hj.2.2.2 hne]; exact hj.2.2.1
  · have := lnk_rem_le S i j
    have := hj.2.2.2
    omega
theorem rem_comm {S : Tr} {i j : Nat} (hi : can S i) (hj : can S j) (hne : j ≠ i) : rem (rem S i) j = rem (rem S j) i := by
  funext k
  have e1 : rem S i j = S j := rem_keep hi.2.1 hj.2.2.2 hne
  have e2 : rem S j i = S i := rem_keep hj.2.1 hi.2.2.2 (Ne.symm hne)
  by_cases hk1 : k = j
  · subst hk1
    have l1 : rem (rem S i) k k = none := by unfold rem; rw [if_pos rfl]
    rw [l1]
    show none = if k = i then none else if leadO k (rem S k i) = 0 then rem S k k else (rem S k k).map (alone k)
    rw [if_neg hne]
    have l2 : rem S k k = none := by unfold rem; rw [if_pos rfl]
    rw [l2]; split <;> rfl
  · by_cases hk2 : k = i
    · subst hk2
      have l1 : rem (rem S j) k k = none := by unfold rem; rw [if_pos rfl]
      rw [l1]
      show (if k = j then none else if leadO k (rem S k j) = 0 then rem S k k else (rem S k k).map (alone k)) = none
      rw [if_neg hk1]
      have l2 : rem S k k = none := by unfold rem; rw [if_pos rfl]
      rw [l2]; split <;> rfl
    · show (if k = j then none else if leadO k (rem S i j) = 0 then rem S i k else (rem S i k).map (alone k)) = if k = i then none else if leadO k (rem S j i) = 0 then rem S j k else (rem S j k).map (alone k)
      rw [if_neg hk1, if_neg hk2, e1, e2]
      have r1 : rem S i k = if leadO k (S i) = 0 then S k else (S k).map (alone k) := by unfold rem; rw [if_neg hk2]
      have r2 : rem S j k = if leadO k (S j) = 0 then S k else (S k).map (alone k) := by unfold rem; rw [if_neg hk1]
      rw [r1, r2]
      by_cases a : leadO k (S i) = 0
      · by_cases b : leadO k (S j) = 0
        · simp [a, b]
        · simp [a, b]
      · by_cases b : leadO k (S j) = 0
        · simp [a, b]
        · simp only [if_neg a, if_neg b]
/-- What is left when all that may go is gone. -/
inductive NF : Tr → Tr → Prop
  | done {S} : (∀ i, ¬ can S i) → NF S S
  | step {S S' : Tr} {i : Nat} : can S i → NF (rem S i) S' → NF S S'
theorem NF.pass {S A : Tr} (h : NF S A) : ∀ {i}, can S i → NF (rem S i) A := by
  induction h with
  | done hn => intro i hi; exact absurd hi (hn i)
  | @step S S' j hj _ ih =>
    intro i hi
    by_cases e : i = j
    · subst e; assumption
    · have h1 := ih (can_rem hj hi e)
      rw [rem_comm hj hi e] at h1
      exact .step (can_rem hi hj (Ne.symm e)) h1
theorem NF.unique {S A B : Tr} (h : NF S A) : NF S B → A = B := by
  induction h with
  | done hn =>
    intro hb
    cases hb with
    | done _ => rfl
    | step hc _ => exact absurd hc (hn _)
  | @step S S' i hi _ ih =>
    intro hb
    exact ih (hb.pass hi)
end Go.Proofs.Ytafonmnfeibaiaa.IT
