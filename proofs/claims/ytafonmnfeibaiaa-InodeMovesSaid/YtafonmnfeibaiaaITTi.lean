/- A tree of inodes, plain: a node as it is kept (its links stored, its names in whatever order) and as it is. No program in sight. -/
import Derived.Test.YtafonmnfeibaiaaITPe
namespace Go.Proofs.Ytafonmnfeibaiaa.IT
open Go.RowKit

/-- A node as the program keeps it, plain. -/
structure Kp where
  kind : Int
  mode : Int
  owner : Int
  group : Int
  links : Int
  tty : Int
  holds : Int
  data : Bytes
  names : List (Bytes × Nat)
  parent : Nat
/-- They tie: the stored links are what leads there, and what is pending; a directory's parent may lag while a loss is pending. -/
structure Ties (P : Nat → Option Kp) (S : Tr) (pend : Nat → Nat) : Prop where
  none : ∀ k, P k = none ↔ S k = none
  some : ∀ k p n, P k = some p → S k = some n → p.kind = n.kind ∧ p.mode = n.mode ∧ p.owner = n.owner ∧ p.group = n.group ∧ p.tty = n.tty ∧ p.holds = n.holds ∧ p.data = n.data ∧ p.names.Perm n.names ∧ p.links = ((lnk S k + pend k : Nat) : Int) ∧ (p.parent = n.parent ∨ (n.kind = 1 ∧ pend k ≠ 0 ∧ n.parent = k))
  lone : ∀ k n, S k = Option.some n → n.kind = 1 → pend k ≠ 0 → n.parent = k
def updK (P : Nat → Option Kp) (k : Nat) (o : Option Kp) : Nat → Option Kp := fun j => if j = k then o else P j
theorem Ties.get {P : Nat → Option Kp} {S : Tr} {pend : Nat → Nat} (h : Ties P S pend) {k : Nat} {p : Kp} (hk : P k = Option.some p) : ∃ n, S k = Option.some n := by
  cases hS : S k with
  | none => rw [(h.none k).2 hS] at hk; cases hk
  | some n => exact ⟨n, rfl⟩
/-- One goes: its entries' losses are pending. -/
theorem Ties.rem {P : Nat → Option Kp} {S : Tr} {pend : Nat → Nat} (h : Ties P S pend) {i : Nat} {n : Nd} (hS : S i = Option.some n) (hi : i ≤ 200) : Ties (updK P i Option.none) (IT.rem S i) fun x => pend x + lead x n := by
  refine ⟨fun k => ?_, fun k p m hp hm => ?_, fun k m hm hk1 hp1 => ?_⟩
  · unfold updK IT.rem
    by_cases e : k = i
    · rw [if_pos e, if_pos e]; simp
    · rw [if_neg e, if_neg e, h.none k]
      split
      · exact Iff.rfl
      · cases S k <;> simp
  · obtain ⟨e, m0, hm0, hmm⟩ := rem_get hm
    have hp0 : P k = Option.some p := by
      unfold updK at hp; rw [if_neg e] at hp; exact hp
    obtain ⟨a1, a2, a3, a4, a5, a6, a7, a8, a9, a10⟩ := h.some k p m0 hp0 hm0
    have hl := pend_rem hS hi pend k
    have a9' : p.links = ((lnk (IT.rem S i) k + (pend k + lead k n) : Nat) : Int) := by rw [a9, hl]
    have hlead : leadO k (S i) = lead k n := by rw [hS]; rfl
    rcases hmm with ⟨g1, rfl⟩ | ⟨g1, rfl⟩
    · refine ⟨a1, a2, a3, a4, a5, a6, a7, a8, a9', ?_⟩
      rcases a10 with b | ⟨b1, b2, b3⟩
      · exact .inl b
      · exact .inr ⟨b1, by show pend k + lead k n ≠ 0; omega, b3⟩
    · have e2 : (alone k m0).mode = m0.mode ∧ (alone k m0).owner = m0.owner ∧ (alone k m0).group = m0.group ∧ (alone k m0).tty = m0.tty := by unfold alone; split <;> exact ⟨rfl, rfl, rfl, rfl⟩
      refine ⟨by rw [alone_kind]; exact a1, by rw [e2.1]; exact a2, by rw [e2.2.1]; exact a3, by rw [e2.2.2.1]; exact a4, by rw [e2.2.2.2]; exact a5, by rw [alone_holds]; exact a6, by rw [alone_data]; exact a7, by rw [alone_names]; exact a8, a9', ?_⟩
      by_cases hk : m0.kind = 1
      · refine .inr ⟨by rw [alone_kind]; exact hk, ?_, alone_parent hk⟩
        show pend k + lead k n ≠ 0
        omega
      · refine .inl ?_
        unfold alone
        rw [if_neg hk]
        rcases a10 with b | ⟨b1, _, _⟩
        · exact b
        · exact absurd b1 hk
  · obtain ⟨e, m0, hm0, hmm⟩ := rem_get hm
    have hlead : leadO k (S i) = lead k n := by rw [hS]; rfl
    rcases hmm with ⟨g1, rfl⟩ | ⟨g1, rfl⟩
    · exact h.lone k m hm0 hk1 (fun hz => hp1 (by show pend k + lead k n = 0; omega))
    · exact alone_parent (by rw [alone_kind] at hk1; exact hk1)
/-- A pending loss is done: one link less; a directory stands alone. -/
def losK (x : Nat) (p : Kp) : Kp := { p with links := p.links - 1, parent := if p.kind = 1 then x else p.parent }
theorem Ties.less {P : Nat → Option Kp} {S : Tr} {pend : Nat → Nat} (h : Ties P S pend) {x : Nat} {p : Kp} (hx : P x = Option.some p) (hp : pend x ≠ 0) : Ties (updK P x (Option.some (losK x p))) S (IT.less pend x) := by
  refine ⟨fun k => ?_, fun k q m hq hm => ?_, fun k m hm hk1 hp1 => h.lone k m hm hk1 (fun hz => hp1 (by unfold IT.less; split <;> omega))⟩
  · unfold updK
    by_cases e : k = x
    · rw [if_pos e, e, ← h.none x, hx]; simp
    · rw [if_neg e]; exact h.none k
  · unfold updK at hq
    by_cases e : k = x
    · subst e
      rw [if_pos rfl] at hq
      obtain rfl := Option.some.inj hq
      obtain ⟨a1, a2, a3, a4, a5, a6, a7, a8, a9, a10⟩ := h.some k p m hx hm
      refine ⟨a1, a2, a3, a4, a5, a6, a7, a8, ?_, .inl ?_⟩
      · show p.links - 1 = _
        unfold IT.less
        rw [if_pos rfl, a9]
        omega
      · show (if p.kind = 1 then k else p.parent) = m.parent
        by_cases hk : p.kind = 1
        · rw [if_pos hk, h.lone k m hm (by rw [← a1]; exact hk) hp]
        · rw [if_neg hk]
          rcases a10 with b | ⟨b, _, _⟩
          · exact b
          · exact absurd (a1.trans b) hk
    · rw [if_neg e] at hq
      have hz : IT.less pend x k = pend k := by unfold IT.less; rw [if_neg e]
      rw [hz]; exact h.some k q m hq hm
end Go.Proofs.Ytafonmnfeibaiaa.IT
