/- A tree of inodes, plain: ties while losses are pending: an entry less, an entry more. No program in sight. -/
import Derived.Test.YtafonmnfeibaiaaITSp
namespace Go.Proofs.Ytafonmnfeibaiaa.IT
open Go.RowKit

def single (x : Nat) : Nat → Nat := fun y => if y = x then 1 else 0
theorem single_same (x : Nat) : single x x = 1 := if_pos rfl
theorem single_other {x y : Nat} (h : y ≠ x) : single x y = 0 := if_neg h
theorem less_single (pend : Nat → Nat) (x : Nat) : less (fun y => pend y + single x y) x = pend := by
  funext y
  unfold less
  by_cases e : y = x
  · subst e; simp [single_same]
  · rw [if_neg e]; simp [single_other e]
theorem updK_comm (P : Nat → Option Kp) {a b : Nat} (h : a ≠ b) (u v : Option Kp) : updK (updK P a u) b v = updK (updK P b v) a u := by
  funext j
  unfold updK
  by_cases e : j = a
  · subst e; simp [h]
  · simp [e]
theorem updK_twice (P : Nat → Option Kp) (a : Nat) (u v : Option Kp) : updK (updK P a u) a v = updK P a v := by
  funext j
  unfold updK
  by_cases e : j = a
  · simp [e]
  · simp [e]
theorem alone_rest (x : Nat) (m : Nd) : (alone x m).mode = m.mode ∧ (alone x m).owner = m.owner ∧ (alone x m).group = m.group ∧ (alone x m).tty = m.tty := by unfold alone; split <;> exact ⟨rfl, rfl, rfl, rfl⟩
theorem under_rest (x : Nat) (m : Nd) : (under x m).mode = m.mode ∧ (under x m).owner = m.owner ∧ (under x m).group = m.group ∧ (under x m).tty = m.tty := by unfold under; split <;> exact ⟨rfl, rfl, rfl, rfl⟩
/-- An entry less: one loss more is pending. -/
theorem Ties.delP {P : Nat → Option Kp} {S : Tr} {pend : Nat → Nat} (h : Ties P S pend) {d x : Nat} {nm : Bytes} {n m : Nd} {p : Kp} (hd : S d = Option.some n) (hx : S x = Option.some m) (hne : x ≠ d) (hd2 : d ≤ 200) (hx2 : x ≤ 200) (ho : Ord n.names) (hf : findN nm n.names = Option.some x) (hp : P d = Option.some p) (l : List (Bytes × Nat)) (hl : l.Perm (delN nm p.names)) : Ties (updK P d (Option.some { p with names := l })) (delT S d x nm n m) fun y => pend y + single x y := by
  have hlk := del_lnk (m := m) hd hx hne hd2 hx2 ho hf
  refine ⟨fun j => ?_, fun j r s hr hs => ?_, fun j s hs hk hz => ?_⟩
  · unfold delT
    by_cases e : j = d
    · subst e; rw [updK_same, upd_same]; simp
    · rw [updK_other _ _ e, upd_other _ _ e]
      by_cases e2 : j = x
      · subst e2; rw [upd_same, h.none j, hx]; simp
      · rw [upd_other _ _ e2]; exact h.none j
  · have hl1 := hlk j
    by_cases e : j = d
    · subst e
      rw [updK_same] at hr; rw [del_at_d] at hs
      obtain rfl := Option.some.inj hr
      obtain rfl := Option.some.inj hs
      rw [if_neg hne, Nat.add_zero] at hl1
      obtain ⟨a1, a2, a3, a4, a5, a6, a7, a8, a9, a10⟩ := h.some j p n hp hd
      refine ⟨a1, a2, a3, a4, a5, a6, a7, hl.trans (perm_del a8 nm), ?_, ?_⟩
      · rw [single_other (Ne.symm hne), Nat.add_zero]
        rw [hl1]
        exact a9
      · rw [single_other (Ne.symm hne), Nat.add_zero]; exact a10
    · rw [updK_other _ _ e] at hr
      by_cases e2 : j = x
      · subst e2
        rw [del_at_x e] at hs
        obtain rfl := Option.some.inj hs
        obtain ⟨a1, a2, a3, a4, a5, a6, a7, a8, a9, a10⟩ := h.some j r m hr hx
        rw [if_pos rfl] at hl1
        obtain ⟨b1, b2, b3, b4⟩ := alone_rest j m
        refine ⟨by rw [alone_kind]; exact a1, by rw [b1]; exact a2, by rw [b2]; exact a3, by rw [b3]; exact a4, by rw [b4]; exact a5, by rw [alone_holds]; exact a6, by rw [alone_data]; exact a7, by rw [alone_names]; exact a8, ?_, ?_⟩
        · rw [a9, ← hl1, single_same, Nat.add_assoc, Nat.add_comm 1]
        · by_cases hk : m.kind = 1
          · exact .inr ⟨by rw [alone_kind]; exact hk, by rw [single_same]; omega, alone_parent hk⟩
          · refine .inl ?_
            unfold alone; rw [if_neg hk]
            rcases a10 with b | ⟨b, _, _⟩
            · exact b
            · exact absurd b hk
      · rw [del_at e e2] at hs
        rw [if_neg (Ne.symm e2), Nat.add_zero] at hl1
        obtain ⟨a1, a2, a3, a4, a5, a6, a7, a8, a9, a10⟩ := h.some j r s hr hs
        refine ⟨a1, a2, a3, a4, a5, a6, a7, a8, ?_, ?_⟩
        · rw [single_other e2, Nat.add_zero, hl1]; exact a9
        · rw [single_other e2, Nat.add_zero]; exact a10
  · by_cases e2 : j = x
    · subst e2
      rw [del_at_x hne] at hs
      obtain rfl := Option.some.inj hs
      exact alone_parent (by rw [alone_kind] at hk; exact hk)
    · rw [single_other e2, Nat.add_zero] at hz
      by_cases e : j = d
      · subst e
        rw [del_at_d] at hs
        obtain rfl := Option.some.inj hs
        exact h.lone j n hd hk hz
      · rw [del_at e e2] at hs
        exact h.lone j s hs hk hz
/-- An entry more: a pending loss is none. -/
theorem Ties.entP {P : Nat → Option Kp} {S : Tr} {pend : Nat → Nat} {x : Nat} (h : Ties P S fun y => pend y + single x y) {d : Nat} {nm : Bytes} {n m : Nd} {p q : Kp} (hz : pend x = 0) (hd : S d = Option.some n) (hx : S x = Option.some m) (hne : x ≠ d) (hd2 : d ≤ 200) (hx2 : x ≤ 200) (hp : P d = Option.some p) (hq : P x = Option.some q) (l : List (Bytes × Nat)) (hl : l.Perm ((nm, x) :: p.names)) : Ties (updK (updK P x (Option.some { q with parent := if q.kind = 1 then d else q.parent })) d (Option.some { p with names := l })) (entT S d x nm n m) pend := by
  have hlk := ent_lnk (nm := nm) (m := m) hd hx hne hd2 hx2
  have at_d : entT S d x nm n m d = Option.some { n with names := insN nm x n.names } := upd_same _ _ _
  have at_x : entT S d x nm n m x = Option.some (under d m) := by unfold entT; rw [upd_other _ _ hne, upd_same]
  have at_o : ∀ {j}, j ≠ d → j ≠ x → entT S d x nm n m j = S j := fun e1 e2 => by unfold entT; rw [upd_other _ _ e1, upd_other _ _ e2]
  refine ⟨fun j => ?_, fun j r s hr hs => ?_, fun j s hs hk hpz => ?_⟩
  · by_cases e : j = d
    · subst e; rw [updK_same, at_d]; simp
    · rw [updK_other _ _ e]
      by_cases e2 : j = x
      · subst e2; rw [updK_same, at_x]; simp
      · rw [updK_other _ _ e2, at_o e e2]; exact h.none j
  · rw [hlk]
    by_cases e : j = d
    · subst e
      rw [updK_same] at hr; rw [at_d] at hs
      obtain rfl := Option.some.inj hr
      obtain rfl := Option.some.inj hs
      rw [if_neg hne, Nat.add_zero]
      obtain ⟨a1, a2, a3, a4, a5, a6, a7, a8, a9, a10⟩ := h.some j p n hp hd
      rw [single_other (Ne.symm hne), Nat.add_zero] at a9 a10
      exact ⟨a1, a2, a3, a4, a5, a6, a7, (hl.trans (a8.cons _)).trans (ins_perm nm x n.names).symm, a9, a10⟩
    · rw [updK_other _ _ e] at hr
      by_cases e2 : j = x
      · subst e2
        rw [updK_same] at hr; rw [at_x] at hs
        obtain rfl := Option.some.inj hr
        obtain rfl := Option.some.inj hs
        rw [if_pos rfl]
        obtain ⟨a1, a2, a3, a4, a5, a6, a7, a8, a9, a10⟩ := h.some j q m hq hx
        rw [single_same] at a9
        obtain ⟨b1, b2, b3, b4⟩ := under_rest d m
        refine ⟨by rw [under_kind]; exact a1, by rw [b1]; exact a2, by rw [b2]; exact a3, by rw [b3]; exact a4, by rw [b4]; exact a5, by rw [under_holds]; exact a6, by rw [under_data]; exact a7, by rw [under_names]; exact a8, ?_, .inl ?_⟩
        · show q.links = _
          rw [a9, Nat.add_assoc, Nat.add_comm 1]
        · show (if q.kind = 1 then d else q.parent) = _
          unfold under
          rw [← a1]
          by_cases hk : q.kind = 1
          · rw [if_pos hk, if_pos hk]
          · rw [if_neg hk, if_neg hk]
            rcases a10 with b | ⟨b, _, _⟩
            · exact b
            · exact absurd (a1.trans b) hk
      · rw [updK_other _ _ e2] at hr; rw [at_o e e2] at hs
        rw [if_neg (Ne.symm e2), Nat.add_zero]
        have a := h.some j r s hr hs
        rw [single_other e2, Nat.add_zero] at a
        exact a
  · by_cases e2 : j = x
    · subst e2; exact absurd hz hpz
    · by_cases e : j = d
      · subst e
        rw [at_d] at hs
        obtain rfl := Option.some.inj hs
        exact h.lone j n hd hk (by rw [single_other e2, Nat.add_zero]; exact hpz)
      · rw [at_o e e2] at hs
        exact h.lone j s hs hk (by rw [single_other e2, Nat.add_zero]; exact hpz)
theorem Ties.congr {P : Nat → Option Kp} {S : Tr} {a b : Nat → Nat} (h : Ties P S a) (e : a = b) : Ties P S b := e ▸ h
theorem calm_single (x : Nat) : (fun y => calm y + single x y) = single x := by funext y; show 0 + single x y = _; rw [Nat.zero_add]
theorem less_one (x : Nat) : less (single x) x = calm := by
  rw [← calm_single]; exact less_single calm x
end Go.Proofs.Ytafonmnfeibaiaa.IT
