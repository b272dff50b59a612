/- A tree of inodes, plain: some go one after another, while others' losses are still pending. No program in sight. -/
import Derived.Test.YtafonmnfeibaiaaITHo
namespace Go.Proofs.Ytafonmnfeibaiaa.IT
open Go.RowKit

/-- Some go, one after another. -/
inductive Steps : Tr → Tr → Prop
  | refl {S : Tr} : Steps S S
  | step {S A : Tr} {i : Nat} : can S i → Steps (rem S i) A → Steps S A
theorem Steps.trans {S A B : Tr} (h : Steps S A) (h2 : Steps A B) : Steps S B := by
  induction h with
  | refl => exact h2
  | step hc _ ih => exact .step hc (ih h2)
theorem Steps.nf {S A : Tr} (h : Steps S A) (hn : ∀ i, ¬ can A i) : NF S A := by
  induction h with
  | refl => exact .done hn
  | step hc _ ih => exact .step hc (ih hn)
theorem Steps.sound {ok : Bytes → Bool} {S A : Tr} (h : Steps S A) : Sound0 ok S → Sound0 ok A := by
  induction h with
  | refl => exact fun hs => hs
  | step hc _ ih => exact fun hs => ih (hs.rem hc)
/-- Who is left, was there: of the same kind, names, holds and data. -/
theorem Steps.get {S A : Tr} (h : Steps S A) {j : Nat} {m : Nd} (hj : A j = some m) : ∃ m0, S j = some m0 ∧ m.kind = m0.kind ∧ m.names = m0.names ∧ m.holds = m0.holds := by
  induction h with
  | refl => exact ⟨m, hj, rfl, rfl, rfl⟩
  | step _ _ ih =>
    obtain ⟨m1, h1, h2, h3, h4⟩ := ih hj
    obtain ⟨_, m0, g1, g2⟩ := rem_get h1
    refine ⟨m0, g1, ?_⟩
    rcases g2 with ⟨_, rfl⟩ | ⟨_, rfl⟩
    · exact ⟨h2, h3, h4⟩
    · rw [alone_kind] at h2; rw [alone_names] at h3; rw [alone_holds] at h4
      exact ⟨h2, h3, h4⟩
/-- Nobody can go but those whose losses are still pending. -/
def Only (S : Tr) (pend : Nat → Nat) : Prop := ∀ k, can S k → pend k ≠ 0
/-- One goes: its entries' losses are pending. -/
theorem pend_rem {S : Tr} {i : Nat} {n : Nd} (hS : S i = some n) (hi : i ≤ 200) (pend : Nat → Nat) (x : Nat) : lnk (rem S i) x + (pend x + lead x n) = lnk S x + pend x := by
  have h := lnk_rem S hi x
  have e : leadO x (S i) = lead x n := by rw [hS]; rfl
  omega
theorem Only.rem {S : Tr} {i : Nat} {n : Nd} {pend : Nat → Nat} (h : ∀ k, can S k → pend k ≠ 0 ∨ k = i) (hS : S i = some n) (hi : i ≤ 200) : Only (IT.rem S i) fun x => pend x + lead x n := by
  intro k ⟨c1, c2, ⟨m, hm, c3⟩, c4⟩
  obtain ⟨hki, m0, g1, g2⟩ := rem_get hm
  have hl := pend_rem hS hi pend k
  show pend k + lead k n ≠ 0
  intro hz
  have hz1 : pend k = 0 := by omega
  have hz2 : lead k n = 0 := by omega
  have hh : m0.holds = 0 := by
    rcases g2 with ⟨_, rfl⟩ | ⟨_, rfl⟩
    · exact c3
    · rw [alone_holds] at c3; exact c3
  rcases h k ⟨c1, c2, ⟨m0, g1, hh⟩, by omega⟩ with e | e
  · exact e hz1
  · exact hki e
/-- A pending loss is done. -/
def less (pend : Nat → Nat) (x : Nat) : Nat → Nat := fun j => if j = x then pend j - 1 else pend j
theorem Only.less {S : Tr} {pend : Nat → Nat} (h : Only S pend) (x : Nat) : ∀ k, can S k → IT.less pend x k ≠ 0 ∨ k = x := fun k hk => by
  by_cases e : k = x
  · exact .inr e
  · refine .inl ?_
    unfold IT.less
    rw [if_neg e]; exact h k hk
/-- One that stays. -/
theorem Only.stay {S : Tr} {pend : Nat → Nat} {i : Nat} (h : ∀ k, can S k → pend k ≠ 0 ∨ k = i) (hi : ¬ can S i ∨ pend i ≠ 0) : Only S pend := fun k hk => by
  rcases h k hk with e | e
  · exact e
  · subst e
    rcases hi with g | g
    · exact absurd hk g
    · exact g
/-- The losses of what is still to be done of a node's entries. -/
def pendL (l : List (Bytes × Nat)) (x : Nat) : Nat := (l.filter fun p => decide (p.2 = x)).length
theorem pendL_cons (p : Bytes × Nat) (l : List (Bytes × Nat)) (x : Nat) : pendL (p :: l) x = pendL l x + if p.2 = x then 1 else 0 := by
  unfold pendL
  rw [List.filter_cons]
  by_cases h : p.2 = x
  · simp [h]
  · simp [h]
theorem pendL_perm {l l' : List (Bytes × Nat)} (h : l.Perm l') (x : Nat) : pendL l x = pendL l' x := (h.filter _).length_eq
theorem less_cons (base : Nat → Nat) (p : Bytes × Nat) (l : List (Bytes × Nat)) : less (fun x => base x + pendL (p :: l) x) p.2 = fun x => base x + pendL l x := by
  funext x
  unfold less
  dsimp only
  by_cases h : x = p.2
  · subst h; rw [if_pos rfl, pendL_cons, if_pos rfl]; omega
  · rw [if_neg h, pendL_cons, if_neg (Ne.symm h)]; omega
/-! Within: by climbing. -/
theorem bel_step {S : Tr} {x k : Nat} {n : Nd} (hk : S k = some n) (hkind : n.kind = 1) (hx : k ≠ x) (hp : n.parent ≠ k) : Bel S x k ↔ Bel S x n.parent := ⟨fun h => h.up hk hx, fun h => .step hk hkind hp h⟩
theorem bel_top {S : Tr} {x k : Nat} {n : Nd} (hk : S k = some n) (hx : k ≠ x) (hp : n.parent = k) : ¬ Bel S x k := fun h => by
  cases h with
  | self => exact hx rfl
  | step h1 _ h3 _ => rw [hk] at h1; obtain rfl := Option.some.inj h1; exact h3 hp
end Go.Proofs.Ytafonmnfeibaiaa.IT
