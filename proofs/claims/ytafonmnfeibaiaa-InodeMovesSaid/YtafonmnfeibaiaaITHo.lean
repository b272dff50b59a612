/- A tree of inodes, plain: what Make, Hold, Drop, Set, Put and Cut answer, and that they keep the tree sound. No program in sight. -/
import Derived.Test.YtafonmnfeibaiaaITMv
import Derived.Test.YtafonmnfeibaiaaITMk
namespace Go.Proofs.Ytafonmnfeibaiaa.IT
open Go.RowKit Classical

/-- Another one of the same names: who can go, could, or it is that one. -/
theorem same_can {S : Tr} {k : Nat} {n n' : Nd} (hk : S k = some n) (hk2 : k ≤ 200) (hn : n'.names = n.names) {i : Nat} (h : can (upd S k (some n')) i) : (i = k ∧ n'.holds = 0) ∨ can S i := by
  obtain ⟨c1, c2, ⟨q, hq, c3⟩, c4⟩ := h
  rw [lnk_same hk2 hk hn] at c4
  rcases get_upd hq with ⟨rfl, e⟩ | ⟨_, e⟩
  · obtain rfl := Option.some.inj e; exact .inl ⟨rfl, c3⟩
  · exact .inr ⟨c1, c2, ⟨q, e, c3⟩, c4⟩
theorem Sound.same {ok : Bytes → Bool} {S : Tr} (h : Sound ok S) {k : Nat} {n n' : Nd} (hk : S k = some n) (hkind : n'.kind = n.kind) (hn : n'.names = n.names) (hp : n'.parent = n.parent) (hsz : n'.data.length ≤ 4096) (hh : n'.holds = 0 → n.holds = 0) : Sound ok (upd S k (some n')) := by
  have hk2 := (h.1.rng k n hk).2
  refine ⟨h.1.same hk hkind hn hp hsz, fun i hi => ?_⟩
  rcases same_can hk hk2 hn hi with ⟨rfl, e⟩ | e
  · obtain ⟨c1, c2, _, c4⟩ := hi
    rw [lnk_same hk2 hk hn] at c4
    exact h.2 i ⟨c1, c2, ⟨n, hk, hh e⟩, c4⟩
  · exact h.2 i e
/-- Make (F1): the first that is free. -/
def isMake (rt : Int → Int → Int → Prop) (S : Tr) (kind m o g tty : Int) (i : Nat) (e : Int) (S' : Tr) : Prop :=
  if kind < 0 ∨ kind > 2 ∨ ¬ rt m o g then i = 0 ∧ e = 1 ∧ S' = S
  else if kind = 2 ∧ (tty < 0 ∨ tty ≥ 4) then i = 0 ∧ e = 1 ∧ S' = S
  else if ∀ k, 1 ≤ k → k ≤ 200 → S k ≠ none then i = 0 ∧ e = 9 ∧ S' = S
  else e = 0 ∧ 1 ≤ i ∧ i ≤ 200 ∧ S i = none ∧ (∀ k, 1 ≤ k → k < i → S k ≠ none) ∧ S' = upd S i (some ⟨kind, m, o, g, if kind = 2 then tty else 0, 1, [], [], if kind = 1 then i else 0⟩)
theorem isMake.sound {ok : Bytes → Bool} {rt : Int → Int → Int → Prop} {S S' : Tr} {kind m o g tty e : Int} {i : Nat} (h : isMake rt S kind m o g tty i e S') (hs : Sound ok S) : Sound ok S' := by
  unfold isMake at h
  split at h
  · exact h.2.2 ▸ hs
  rename_i h1
  split at h
  · exact h.2.2 ▸ hs
  split at h
  · exact h.2.2 ▸ hs
  obtain ⟨_, g1, g2, g3, _, rfl⟩ := h
  have a1 : ¬ kind < 0 := fun hh => h1 (.inl hh)
  have a2 : ¬ kind > 2 := fun hh => h1 (.inr (.inl hh))
  refine hs.make g3 g1 g2 ?_ rfl (fun hk => ?_) rfl (by show (1 : Nat) ≠ 0; omega)
  · show kind = 0 ∨ kind = 1 ∨ kind = 2
    omega
  · show (if kind = 1 then i else 0) = i
    rw [if_pos hk]
/-- Hold and Drop (F2). -/
def isHold (S : Tr) (k : Nat) (r : Bool) (S' : Tr) : Prop := match S k with
  | none => r = false ∧ S' = S
  | some n => r = true ∧ S' = upd S k (some { n with holds := n.holds + 1 })
def isDrop (S : Tr) (k : Nat) (r : Bool) (S' : Tr) : Prop := match S k with
  | none => r = false ∧ S' = S
  | some n => if n.holds = 0 then r = false ∧ S' = S else r = true ∧ NF (upd S k (some { n with holds := n.holds - 1 })) S'
theorem isHold.sound {ok : Bytes → Bool} {S S' : Tr} {k : Nat} {r : Bool} (h : isHold S k r S') (hs : Sound ok S) : Sound ok S' := by
  unfold isHold at h
  cases hk : S k with
  | none => rw [hk] at h; exact h.2 ▸ hs
  | some n =>
    rw [hk] at h
    obtain ⟨_, rfl⟩ := h
    exact hs.same hk rfl rfl rfl (hs.1.size k n hk) (fun hh => by cases hh)
theorem isDrop.sound {ok : Bytes → Bool} {S S' : Tr} {k : Nat} {r : Bool} (h : isDrop S k r S') (hs : Sound ok S) : Sound ok S' := by
  unfold isDrop at h
  cases hk : S k with
  | none => rw [hk] at h; exact h.2 ▸ hs
  | some n =>
    rw [hk] at h
    dsimp only at h
    split at h
    · exact h.2 ▸ hs
    · exact h.2.sound (hs.1.same hk rfl rfl rfl (hs.1.size k n hk))
/-- Set, Put and Cut (F3). -/
def isSet (rt : Int → Int → Int → Prop) (S : Tr) (k : Nat) (m o g e : Int) (S' : Tr) : Prop := match S k with
  | none => e = 3 ∧ S' = S
  | some n => if ¬ rt m o g then e = 1 ∧ S' = S else e = 0 ∧ S' = upd S k (some { n with mode := m, owner := o, group := g })
def isPut (S : Tr) (k : Nat) (at0 : Int) (s : Bytes) (e : Int) (S' : Tr) : Prop := match S k with
  | none => e = 3 ∧ S' = S
  | some n =>
    if n.kind = 1 then e = 7 ∧ S' = S
    else if n.kind = 2 then e = 1 ∧ S' = S
    else if at0 < 0 ∨ at0 > n.data.length then e = 1 ∧ S' = S
    else if (s.length : Int) > 4096 - at0 then e = 9 ∧ S' = S
    else e = 0 ∧ S' = upd S k (some { n with data := n.data.take at0.toNat ++ s ++ n.data.drop (at0.toNat + s.length) })
def isCut (S : Tr) (k : Nat) (e : Int) (S' : Tr) : Prop := match S k with
  | none => e = 3 ∧ S' = S
  | some n =>
    if n.kind = 1 then e = 7 ∧ S' = S
    else if n.kind = 2 then e = 1 ∧ S' = S
    else e = 0 ∧ S' = upd S k (some { n with data := [] })
theorem isSet.sound {ok : Bytes → Bool} {rt : Int → Int → Int → Prop} {S S' : Tr} {k : Nat} {m o g e : Int} (h : isSet rt S k m o g e S') (hs : Sound ok S) : Sound ok S' := by
  unfold isSet at h
  cases hk : S k with
  | none => rw [hk] at h; exact h.2 ▸ hs
  | some n =>
    rw [hk] at h
    dsimp only at h
    split at h
    · exact h.2 ▸ hs
    · obtain ⟨_, rfl⟩ := h
      exact hs.same hk rfl rfl rfl (hs.1.size k n hk) (fun hh => hh)
theorem isPut.sound {ok : Bytes → Bool} {S S' : Tr} {k : Nat} {at0 : Int} {s : Bytes} {e : Int} (h : isPut S k at0 s e S') (hs : Sound ok S) : Sound ok S' := by
  unfold isPut at h
  cases hk : S k with
  | none => rw [hk] at h; exact h.2 ▸ hs
  | some n =>
    rw [hk] at h
    dsimp only at h
    split at h
    · exact h.2 ▸ hs
    split at h
    · exact h.2 ▸ hs
    split at h
    · exact h.2 ▸ hs
    rename_i h3
    split at h
    · exact h.2 ▸ hs
    rename_i h4
    obtain ⟨_, rfl⟩ := h
    have hz := hs.1.size k n hk
    have a1 : 0 ≤ at0 := Int.not_lt.1 fun hh => h3 (.inl hh)
    have a2 : at0 ≤ n.data.length := Int.not_lt.1 fun hh => h3 (.inr hh)
    refine hs.same hk rfl rfl rfl ?_ (fun hh => hh)
    show (n.data.take at0.toNat ++ s ++ n.data.drop (at0.toNat + s.length)).length ≤ 4096
    rw [List.length_append, List.length_append, List.length_take, List.length_drop]
    omega
theorem isCut.sound {ok : Bytes → Bool} {S S' : Tr} {k : Nat} {e : Int} (h : isCut S k e S') (hs : Sound ok S) : Sound ok S' := by
  unfold isCut at h
  cases hk : S k with
  | none => rw [hk] at h; exact h.2 ▸ hs
  | some n =>
    rw [hk] at h
    dsimp only at h
    split at h
    · exact h.2 ▸ hs
    split at h
    · exact h.2 ▸ hs
    obtain ⟨_, rfl⟩ := h
    exact hs.same hk rfl rfl rfl (by simp) (fun hh => hh)
end Go.Proofs.Ytafonmnfeibaiaa.IT
