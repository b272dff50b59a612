/- A tree of inodes, plain: ties, when a node is another one, when there is one more, and when an entry is more or less. No program in sight. -/
import Derived.Test.YtafonmnfeibaiaaITTi
import Derived.Test.YtafonmnfeibaiaaITMv
namespace Go.Proofs.Ytafonmnfeibaiaa.IT
open Go.RowKit

theorem updK_same (P : Nat → Option Kp) (k : Nat) (o : Option Kp) : updK P k o k = o := if_pos rfl
theorem updK_other (P : Nat → Option Kp) {k j : Nat} (o : Option Kp) (h : j ≠ k) : updK P k o j = P j := if_neg h
/-- Nothing is pending. -/
def calm : Nat → Nat := fun _ => 0
/-- A node as it is kept, when nothing is pending. -/
structure Kept (p : Kp) (n : Nd) (l : Nat) : Prop where
  kind : p.kind = n.kind
  mode : p.mode = n.mode
  owner : p.owner = n.owner
  group : p.group = n.group
  tty : p.tty = n.tty
  holds : p.holds = n.holds
  data : p.data = n.data
  names : p.names.Perm n.names
  links : p.links = (l : Int)
  parent : p.parent = n.parent
theorem Ties.kept {P : Nat → Option Kp} {S : Tr} (h : Ties P S calm) {k : Nat} {p : Kp} {n : Nd} (hp : P k = Option.some p) (hn : S k = Option.some n) : Kept p n (lnk S k) := by
  obtain ⟨a1, a2, a3, a4, a5, a6, a7, a8, a9, a10⟩ := h.some k p n hp hn
  rw [show calm k = 0 from rfl, Nat.add_zero] at a9
  refine ⟨a1, a2, a3, a4, a5, a6, a7, a8, a9, ?_⟩
  rcases a10 with b | ⟨_, b, _⟩
  · exact b
  · exact absurd rfl b
theorem ties_calm {P : Nat → Option Kp} {S : Tr} (h0 : ∀ k, P k = Option.none ↔ S k = Option.none) (h1 : ∀ k p n, P k = Option.some p → S k = Option.some n → Kept p n (lnk S k)) : Ties P S calm :=
  ⟨h0, fun k p n hp hn => by
    obtain ⟨a1, a2, a3, a4, a5, a6, a7, a8, a9, a10⟩ := h1 k p n hp hn
    exact ⟨a1, a2, a3, a4, a5, a6, a7, a8, by rw [show calm k = 0 from rfl, Nat.add_zero]; exact a9, .inl a10⟩, fun k n _ _ hz => absurd rfl hz⟩
/-- A node is another one of the same names. -/
theorem Ties.same {P : Nat → Option Kp} {S : Tr} (h : Ties P S calm) {k : Nat} {n n' : Nd} {p' : Kp} (hk : S k = Option.some n) (hk2 : k ≤ 200) (hn : n'.names = n.names) (hp' : Kept p' n' (lnk S k)) : Ties (updK P k (Option.some p')) (upd S k (Option.some n')) calm := by
  refine ties_calm (fun j => ?_) fun j q m hq hm => ?_
  · by_cases e : j = k
    · subst e; rw [updK_same, upd_same]; simp
    · rw [updK_other _ _ e, upd_other _ _ e]; exact h.none j
  · rw [lnk_same hk2 hk hn]
    by_cases e : j = k
    · subst e
      rw [updK_same] at hq; rw [upd_same] at hm
      obtain rfl := Option.some.inj hq
      obtain rfl := Option.some.inj hm
      exact hp'
    · rw [updK_other _ _ e] at hq; rw [upd_other _ _ e] at hm
      exact h.kept hq hm
/-- An entry more. -/
theorem Ties.ent {P : Nat → Option Kp} {S : Tr} (h : Ties P S calm) {d x : Nat} {nm : Bytes} {n m : Nd} {p q : Kp} (hd : S d = Option.some n) (hx : S x = Option.some m) (hne : x ≠ d) (hd2 : d ≤ 200) (hx2 : x ≤ 200) (hp : P d = Option.some p) (hq : P x = Option.some q) (l : List (Bytes × Nat)) (hl : l.Perm ((nm, x) :: p.names)) : Ties (updK (updK P x (Option.some { q with links := q.links + 1, parent := if q.kind = 1 then d else q.parent })) d (Option.some { p with names := l })) (entT S d x nm n m) calm := by
  have kd := h.kept hp hd
  have kx := h.kept hq hx
  refine ties_calm (fun j => ?_) fun j r s hr hs => ?_
  · unfold entT
    by_cases e : j = d
    · subst e; rw [updK_same, upd_same]; simp
    · rw [updK_other _ _ e, upd_other _ _ e]
      by_cases e2 : j = x
      · subst e2; rw [updK_same, upd_same]; simp
      · rw [updK_other _ _ e2, upd_other _ _ e2]; exact h.none j
  · rw [ent_lnk hd hx hne hd2 hx2]
    unfold entT at hs
    by_cases e : j = d
    · subst e
      rw [updK_same] at hr; rw [upd_same] at hs
      obtain rfl := Option.some.inj hr
      obtain rfl := Option.some.inj hs
      rw [if_neg hne, Nat.add_zero]
      exact ⟨kd.kind, kd.mode, kd.owner, kd.group, kd.tty, kd.holds, kd.data, (hl.trans (kd.names.cons _)).trans (ins_perm nm x n.names).symm, kd.links, kd.parent⟩
    · rw [updK_other _ _ e] at hr; rw [upd_other _ _ e] at hs
      by_cases e2 : j = x
      · subst e2
        rw [updK_same] at hr; rw [upd_same] at hs
        obtain rfl := Option.some.inj hr
        obtain rfl := Option.some.inj hs
        rw [if_pos rfl]
        have eo : (under d m).mode = m.mode ∧ (under d m).owner = m.owner ∧ (under d m).group = m.group ∧ (under d m).tty = m.tty := by unfold under; split <;> exact ⟨rfl, rfl, rfl, rfl⟩
        refine ⟨by rw [under_kind]; exact kx.kind, by rw [eo.1]; exact kx.mode, by rw [eo.2.1]; exact kx.owner, by rw [eo.2.2.1]; exact kx.group, by rw [eo.2.2.2]; exact kx.tty, by rw [under_holds]; exact kx.holds, by rw [under_data]; exact kx.data, by rw [under_names]; exact kx.names, ?_, ?_⟩
        · show q.links + 1 = _
          rw [kx.links]; omega
        · show (if q.kind = 1 then d else q.parent) = _
          unfold under
          rw [← kx.kind]
          by_cases hk : q.kind = 1
          · rw [if_pos hk, if_pos hk]
          · rw [if_neg hk, if_neg hk]; exact kx.parent
      · rw [updK_other _ _ e2] at hr; rw [upd_other _ _ e2] at hs
        rw [if_neg (Ne.symm e2), Nat.add_zero]
        exact h.kept hr hs
/-- An entry less: the loss is pending. -/
theorem Ties.del {P : Nat → Option Kp} {S : Tr} (h : Ties P S calm) {d x : Nat} {nm : Bytes} {n m : Nd} {p : Kp} (hd : S d = Option.some n) (hx : S x = Option.some m) (hne : x ≠ d) (hd2 : d ≤ 200) (hx2 : x ≤ 200) (ho : Ord n.names) (hf : findN nm n.names = Option.some x) (hp : P d = Option.some p) (l : List (Bytes × Nat)) (hl : l.Perm (delN nm p.names)) : Ties (updK P d (Option.some { p with names := l })) (delT S d x nm n m) fun y => if y = x then 1 else 0 := by
  have kd := h.kept hp hd
  have hlk := del_lnk (m := m) hd hx hne hd2 hx2 ho hf
  refine ⟨fun j => ?_, fun j r s hr hs => ?_, fun j s hs hk hz => ?_⟩
  · unfold delT
    by_cases e : j = d
    · subst e; rw [updK_same, upd_same]; simp
    · rw [updK_other _ _ e, upd_other _ _ e]
      by_cases e2 : j = x
      · subst e2; rw [upd_same, h.none j, hx]; simp
      · rw [upd_other _ _ e2]; exact h.none j
  · have hl1 := hlk j
    by_cases e : j = d
    · subst e
      rw [updK_same] at hr; rw [del_at_d] at hs
      obtain rfl := Option.some.inj hr
      obtain rfl := Option.some.inj hs
      rw [if_neg hne] at hl1
      rw [if_neg (Ne.symm hne)]
      exact ⟨kd.kind, kd.mode, kd.owner, kd.group, kd.tty, kd.holds, kd.data, hl.trans (perm_del kd.names nm), by rw [hl1]; exact kd.links, .inl kd.parent⟩
    · rw [updK_other _ _ e] at hr
      by_cases e2 : j = x
      · subst e2
        rw [del_at_x e] at hs
        obtain rfl := Option.some.inj hs
        have kx := h.kept hr hx
        rw [if_pos rfl] at hl1
        rw [if_pos rfl]
        have eo : (alone j m).mode = m.mode ∧ (alone j m).owner = m.owner ∧ (alone j m).group = m.group ∧ (alone j m).tty = m.tty := by unfold alone; split <;> exact ⟨rfl, rfl, rfl, rfl⟩
        refine ⟨by rw [alone_kind]; exact kx.kind, by rw [eo.1]; exact kx.mode, by rw [eo.2.1]; exact kx.owner, by rw [eo.2.2.1]; exact kx.group, by rw [eo.2.2.2]; exact kx.tty, by rw [alone_holds]; exact kx.holds, by rw [alone_data]; exact kx.data, by rw [alone_names]; exact kx.names, by rw [hl1]; exact kx.links, ?_⟩
        by_cases hk : m.kind = 1
        · exact .inr ⟨by rw [alone_kind]; exact hk, by omega, alone_parent hk⟩
        · refine .inl ?_
          unfold alone; rw [if_neg hk]; exact kx.parent
      · rw [del_at e e2] at hs
        rw [if_neg (Ne.symm e2)] at hl1
        rw [if_neg e2]
        have kj := h.kept hr hs
        exact ⟨kj.kind, kj.mode, kj.owner, kj.group, kj.tty, kj.holds, kj.data, kj.names, by rw [hl1]; exact kj.links, .inl kj.parent⟩
  · by_cases e2 : j = x
    · subst e2
      rw [del_at_x hne] at hs
      obtain rfl := Option.some.inj hs
      exact alone_parent (by rw [alone_kind] at hk; exact hk)
    · exact absurd (if_neg e2) hz
end Go.Proofs.Ytafonmnfeibaiaa.IT
