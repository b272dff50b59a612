/- A tree of inodes, plain: what Enter, Remove and Move answer, and that they keep the tree sound. No program in sight. -/
import Derived.Test.YtafonmnfeibaiaaITDe
namespace Go.Proofs.Ytafonmnfeibaiaa.IT
open Go.RowKit Classical

theorem del_not {nm : Bytes} {l : List (Bytes × Nat)} : ∀ p ∈ delN nm l, p.1 ≠ nm := fun p hp => by
  have := (List.mem_filter.1 hp).2
  simpa using this
theorem del_len {nm : Bytes} {x : Nat} {l : List (Bytes × Nat)} (ho : Ord l) (hf : findN nm l = some x) : (delN nm l).length + 1 = l.length := by
  rw [(del_perm ho hf).length_eq]; rfl
/-- Enter (F3). -/
def isEnter (ok : Bytes → Bool) (S : Tr) (d : Nat) (nm : Bytes) (x : Nat) (e : Int) (S' : Tr) : Prop := match S d, S x with
  | some n, some m =>
    if n.kind ≠ 1 then e = 6 ∧ S' = S
    else if ok nm = false then e = 1 ∧ S' = S
    else if findN nm n.names ≠ none then e = 5 ∧ S' = S
    else if x = 1 ∨ (m.kind = 1 ∧ lnk S x > 0) ∨ lnk S x ≥ 8 then e = 12 ∧ S' = S
    else if n.names.length ≥ 40 then e = 9 ∧ S' = S
    else if m.kind = 1 ∧ Bel S x d then e = 8 ∧ S' = S
    else e = 0 ∧ S' = entT S d x nm n m
  | _, _ => e = 3 ∧ S' = S
/-- Remove (F3). -/
def isRemove (S : Tr) (d : Nat) (nm : Bytes) (e : Int) (S' : Tr) : Prop := match S d with
  | none => e = 3 ∧ S' = S
  | some n =>
    if n.kind ≠ 1 then e = 6 ∧ S' = S
    else match findN nm n.names with
      | none => e = 3 ∧ S' = S
      | some x => ∃ m, S x = some m ∧ if m.names ≠ [] then e = 8 ∧ S' = S else e = 0 ∧ NF (delT S d x nm n m) S'
/-- Move (F3). -/
def isMove (ok : Bytes → Bool) (S : Tr) (d : Nat) (nm : Bytes) (b : Nat) (as : Bytes) (e : Int) (S' : Tr) : Prop := match S d, S b with
  | some n, some q =>
    if n.kind ≠ 1 ∨ q.kind ≠ 1 then e = 6 ∧ S' = S
    else match findN nm n.names with
      | none => e = 3 ∧ S' = S
      | some x => ∃ m, S x = some m ∧
        if ok as = false then e = 1 ∧ S' = S
        else if m.kind = 1 ∧ Bel S x b then e = 8 ∧ S' = S
        else match findN as q.names with
          | none =>
            if d ≠ b ∧ q.names.length ≥ 40 then e = 9 ∧ S' = S
            else e = 0 ∧ ∃ q1 m1, delT S d x nm n m b = some q1 ∧ delT S d x nm n m x = some m1 ∧ S' = entT (delT S d x nm n m) b x as q1 m1
          | some w => if w = x then e = 0 ∧ S' = S
            else ∃ mw, S w = some mw ∧
              if ¬ (mw.kind = 1 ↔ m.kind = 1) then e = 7 ∧ S' = S
              else if mw.names ≠ [] then e = 8 ∧ S' = S
              else e = 0 ∧ ∃ q1 q2 m2, delT S d x nm n m b = some q1 ∧ delT (delT S d x nm n m) b w as q1 mw b = some q2 ∧ delT (delT S d x nm n m) b w as q1 mw x = some m2 ∧ NF (entT (delT (delT S d x nm n m) b w as q1 mw) b x as q2 m2) S'
  | _, _ => e = 3 ∧ S' = S
/-- An entry more: nobody can go who could not. -/
theorem ent_can {S : Tr} {d x : Nat} {nm : Bytes} {n m : Nd} (hd : S d = some n) (hx : S x = some m) (hne : x ≠ d) (hd2 : d ≤ 200) (hx2 : x ≤ 200) {i : Nat} (h : can (entT S d x nm n m) i) : i ≠ x ∧ can S i := by
  obtain ⟨c1, c2, ⟨q, hq, c3⟩, c4⟩ := h
  have hl := ent_lnk (nm := nm) hd hx hne hd2 hx2 i
  have hix : i ≠ x := fun e => by subst e; rw [if_pos rfl] at hl; omega
  rw [if_neg (Ne.symm hix)] at hl
  refine ⟨hix, c1, c2, ?_, by omega⟩
  unfold entT at hq
  rcases get_upd hq with ⟨rfl, e⟩ | ⟨e1, e⟩
  · obtain rfl := Option.some.inj e; exact ⟨n, hd, c3⟩
  · rcases get_upd e with ⟨rfl, _⟩ | ⟨_, e3⟩
    · exact absurd rfl hix
    · exact ⟨q, e3, c3⟩
/-- An entry less: none but the one it led to. -/
theorem del_can {S : Tr} {d x : Nat} {nm : Bytes} {n m : Nd} (hd : S d = some n) (hx : S x = some m) (hne : x ≠ d) (hd2 : d ≤ 200) (hx2 : x ≤ 200) (ho : Ord n.names) (hf : findN nm n.names = some x) {i : Nat} (h : can (delT S d x nm n m) i) : i = x ∨ can S i := by
  obtain ⟨c1, c2, ⟨q, hq, c3⟩, c4⟩ := h
  by_cases hix : i = x
  · exact .inl hix
  have hl := del_lnk hd hx hne hd2 hx2 ho hf i
  rw [if_neg (Ne.symm hix)] at hl
  refine .inr ⟨c1, c2, ?_, by omega⟩
  rcases del_get hq with ⟨rfl, rfl⟩ | ⟨_, e, _⟩ | ⟨_, _, e⟩
  · exact ⟨n, hd, c3⟩
  · exact absurd e hix
  · exact ⟨q, e, c3⟩
theorem isEnter.sound {ok : Bytes → Bool} {S S' : Tr} {d x : Nat} {nm : Bytes} {e : Int} (h : isEnter ok S d nm x e S') (hs : Sound ok S) : Sound ok S' := by
  unfold isEnter at h
  cases hd : S d with
  | none => rw [hd] at h; exact h.2 ▸ hs
  | some n =>
    cases hx : S x with
    | none => rw [hd, hx] at h; exact h.2 ▸ hs
    | some m =>
      rw [hd, hx] at h
      dsimp only at h
      split at h
      · exact h.2 ▸ hs
      rename_i h1
      split at h
      · exact h.2 ▸ hs
      rename_i h2
      split at h
      · exact h.2 ▸ hs
      rename_i h3
      split at h
      · exact h.2 ▸ hs
      rename_i h4
      split at h
      · exact h.2 ▸ hs
      rename_i h5
      split at h
      · exact h.2 ▸ hs
      rename_i h6
      obtain ⟨_, rfl⟩ := h
      have hdk : n.kind = 1 := Decidable.not_not.1 h1
      have hfn : findN nm n.names = none := Decidable.not_not.1 h3
      have hne : x ≠ d := fun e2 => by
        subst e2; rw [hd] at hx; obtain rfl := Option.some.inj hx
        exact h6 ⟨hdk, .self⟩
      refine ⟨hs.1.enter hd hdk hx (find_none hfn) (by cases hb : ok nm with | true => rfl | false => exact absurd hb h2) (by omega) ?_ ?_, fun i hi => ?_⟩
      · exact Nat.lt_of_not_le fun hh => h4 (.inr (.inr hh))
      · intro hk
        refine ⟨fun hh => h4 (.inl hh), ?_, fun hh => h6 ⟨hk, hh⟩⟩
        exact Nat.eq_zero_of_not_pos fun hh => h4 (.inr (.inl ⟨hk, hh⟩))
      · exact hs.2 i (ent_can hd hx hne (hs.1.rng d n hd).2 (hs.1.rng x m hx).2 hi).2
theorem isRemove.sound {ok : Bytes → Bool} {S S' : Tr} {d : Nat} {nm : Bytes} {e : Int} (h : isRemove S d nm e S') (hs : Sound ok S) : Sound ok S' := by
  unfold isRemove at h
  cases hd : S d with
  | none => rw [hd] at h; exact h.2 ▸ hs
  | some n =>
    rw [hd] at h
    dsimp only at h
    split at h
    · exact h.2 ▸ hs
    split at h
    · exact h.2 ▸ hs
    · rename_i x hf
      obtain ⟨m, hx, h⟩ := h
      split at h
      · exact h.2 ▸ hs
      · exact h.2.sound (hs.1.del hd hx hf)
end Go.Proofs.Ytafonmnfeibaiaa.IT
