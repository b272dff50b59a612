/- A tree of inodes, plain: an entry less. No program in sight. -/
import Derived.Test.YtafonmnfeibaiaaITEn
namespace Go.Proofs.Ytafonmnfeibaiaa.IT
open Go.RowKit

/-- An entry less. -/
def delT (S : Tr) (d x : Nat) (nm : Bytes) (n m : Nd) : Tr := upd (upd S x (some (alone x m))) d (some { n with names := delN nm n.names })
theorem alone_parent {x : Nat} {n : Nd} (h : n.kind = 1) : (alone x n).parent = x := by unfold alone; rw [if_pos h]
theorem del_lead {nm : Bytes} {x : Nat} {n : Nd} (ho : Ord n.names) (hf : findN nm n.names = some x) (y : Nat) : lead y { n with names := delN nm n.names } + (if x = y then 1 else 0) = lead y n := by
  unfold lead
  show ((delN nm n.names).filter fun p => decide (p.2 = y)).length + _ = _
  rw [((del_perm ho hf).filter _).length_eq, List.filter_cons]
  by_cases h : x = y
  · simp [h]
  · simp [h]
theorem del_lnk {S : Tr} {d x : Nat} {nm : Bytes} {n m : Nd} (hd : S d = some n) (hx : S x = some m) (hne : x ≠ d) (hd2 : d ≤ 200) (hx2 : x ≤ 200) (ho : Ord n.names) (hf : findN nm n.names = some x) (y : Nat) : lnk (delT S d x nm n m) y + (if x = y then 1 else 0) = lnk S y := by
  unfold delT
  have h1 := lnk_upd (upd S x (some (alone x m))) hd2 (some { n with names := delN nm n.names }) y
  rw [upd_other _ _ (Ne.symm hne), hd, lnk_same hx2 hx (alone_names x m)] at h1
  have h2 : leadO y (some { n with names := delN nm n.names }) + (if x = y then 1 else 0) = leadO y (some n) := del_lead ho hf y
  omega
/-- Who stands there, was there. -/
theorem del_get {S : Tr} {d x : Nat} {nm : Bytes} {n m : Nd} {j : Nat} {q : Nd} (hj : delT S d x nm n m j = some q) : (j = d ∧ q = { n with names := delN nm n.names }) ∨ (j ≠ d ∧ j = x ∧ q = alone x m) ∨ (j ≠ d ∧ j ≠ x ∧ S j = some q) := by
  unfold delT at hj
  rcases get_upd hj with ⟨rfl, e⟩ | ⟨e1, e⟩
  · exact .inl ⟨rfl, (Option.some.inj e).symm⟩
  · rcases get_upd e with ⟨rfl, e2⟩ | ⟨e2, e3⟩
    · exact .inr (.inl ⟨e1, rfl, (Option.some.inj e2).symm⟩)
    · exact .inr (.inr ⟨e1, e2, e3⟩)
theorem del_back {S : Tr} {d x : Nat} {nm : Bytes} {n m : Nd} (hd : S d = some n) (hx : S x = some m) {j : Nat} {q : Nd} (hj : S j = some q) : ∃ q1, delT S d x nm n m j = some q1 ∧ q1.kind = q.kind := by
  unfold delT
  by_cases e : j = d
  · subst e; rw [hd] at hj; obtain rfl := Option.some.inj hj
    exact ⟨_, upd_same _ _ _, rfl⟩
  · rw [upd_other _ _ e]
    by_cases e2 : j = x
    · subst e2; rw [hx] at hj; obtain rfl := Option.some.inj hj
      exact ⟨_, upd_same _ _ _, alone_kind _ _⟩
    · exact ⟨q, by rw [upd_other _ _ e2]; exact hj, rfl⟩
/-- The one it led to is another one. -/
theorem Sound0.apart {ok : Bytes → Bool} {S : Tr} (h : Sound0 ok S) {d x : Nat} {nm : Bytes} {n m : Nd} (hd : S d = some n) (hx : S x = some m) (hf : findN nm n.names = some x) : x ≠ d := fun e => by
  subst e
  rw [hd] at hx; obtain rfl := Option.some.inj hx
  by_cases hk : n.kind = 1
  · exact (h.up x n (nm, x) n hd (find_mem hf) hd hk).2 rfl
  · have := h.leaf x n hd hk
    rw [this] at hf; cases hf
theorem Sound0.del {ok : Bytes → Bool} {S : Tr} (h : Sound0 ok S) {d x : Nat} {nm : Bytes} {n m : Nd} (hd : S d = some n) (hx : S x = some m) (hf : findN nm n.names = some x) : Sound0 ok (delT S d x nm n m) := by
  have hne := h.apart hd hx hf
  have hl : ∀ y, lnk (delT S d x nm n m) y + (if x = y then 1 else 0) = lnk S y := del_lnk hd hx hne (h.rng d n hd).2 (h.rng x m hx).2 (h.ord d n hd) hf
  have hle : ∀ y, lnk (delT S d x nm n m) y ≤ lnk S y := fun y => by have := hl y; omega
  have bk : ∀ {j q}, S j = some q → ∃ q1, delT S d x nm n m j = some q1 ∧ q1.kind = q.kind := fun {j q} hj => del_back hd hx hj
  have mem : ∀ {p : Bytes × Nat}, p ∈ delN nm n.names → p ∈ n.names := fun {p} hp => (List.mem_filter.1 hp).1
  have hlx : lnk S x ≠ 0 := by
    have := hl x; rw [if_pos rfl] at this; omega
  have hx1 : x ≠ 1 := fun e => by subst e; exact hlx h.root0
  have sm : ∀ {j q}, delT S d x nm n m j = some q → ∃ q0, S j = some q0 ∧ q.kind = q0.kind ∧ q.data = q0.data ∧ ∀ p ∈ q.names, p ∈ q0.names := fun {j q} hj => by
    rcases del_get hj with ⟨rfl, rfl⟩ | ⟨_, rfl, rfl⟩ | ⟨_, _, e⟩
    · exact ⟨n, hd, rfl, rfl, fun p hp => mem hp⟩
    · exact ⟨m, hx, alone_kind _ _, alone_data _ _, fun p hp => by rw [alone_names] at hp; exact hp⟩
    · exact ⟨q, e, rfl, rfl, fun p hp => hp⟩
  refine ⟨?_, ?_, ?_, ?_, ?_, ?_, ?_, ?_, ?_, ?_, ?_, ?_, ?_, ?_, ?_⟩
  · intro j q hj; obtain ⟨q0, e, _⟩ := sm hj; exact h.rng j q0 e
  · obtain ⟨r, h1, h2, h3⟩ := h.root
    by_cases e : (1 : Nat) = d
    · subst e; rw [hd] at h1; obtain rfl := Option.some.inj h1
      exact ⟨_, upd_same _ _ _, h2, h3⟩
    · refine ⟨r, ?_, h2, h3⟩
      unfold delT
      rw [upd_other _ _ e, upd_other _ _ (Ne.symm hx1)]; exact h1
  · have := h.root0; have := hle 1; omega
  · intro j q hj; obtain ⟨q0, e, e2, _⟩ := sm hj; rw [e2]; exact h.kind j q0 e
  · intro j q hj hq
    obtain ⟨q0, e, e2, _, e4⟩ := sm hj
    have := h.leaf j q0 e (by rw [← e2]; exact hq)
    rw [this] at e4
    cases hqn : q.names with
    | nil => rfl
    | cons a l => exact absurd (e4 a (by rw [hqn]; simp)) (by simp)
  · intro j q hj
    rcases del_get hj with ⟨rfl, rfl⟩ | ⟨_, rfl, rfl⟩ | ⟨_, _, e⟩
    · exact ord_del (h.ord j n hd) nm
    · rw [alone_names]; exact h.ord j m hx
    · exact h.ord j q e
  · intro j q p hj hp
    obtain ⟨q0, e, _, _, e4⟩ := sm hj
    exact h.okn j q0 p e (e4 p hp)
  · intro j q p hj hp
    obtain ⟨q0, e, _, _, e4⟩ := sm hj
    obtain ⟨m2, e2⟩ := h.lead j q0 p e (e4 p hp)
    obtain ⟨q1, e1, _⟩ := bk e2; exact ⟨q1, e1⟩
  · intro j q hj
    rcases del_get hj with ⟨rfl, rfl⟩ | ⟨_, rfl, rfl⟩ | ⟨_, _, e⟩
    · show (delN nm n.names).length ≤ 40
      have h1 := h.few j n hd
      have h2 : (delN nm n.names).length ≤ n.names.length := List.length_filter_le _ _
      omega
    · rw [alone_names]; exact h.few j m hx
    · exact h.few j q e
  · intro j; exact Nat.le_trans (hle j) (h.many j)
  · intro j q hj hq
    obtain ⟨q0, e, e2, _⟩ := sm hj
    exact Nat.le_trans (hle j) (h.once j q0 e (by rw [← e2]; exact hq))
  · intro j q p r hj hp hr hrk
    obtain ⟨q0, e, _, _, e4⟩ := sm hj
    have hp0 := e4 p hp
    rcases del_get hr with ⟨e1, rfl⟩ | ⟨_, e1, rfl⟩ | ⟨_, _, e2⟩
    · exact h.up j q0 p n e hp0 (by rw [e1]; exact hd) hrk
    · exfalso
      rw [alone_kind] at hrk
      have l1 : leadO x (delT S d x nm n m j) ≠ 0 := by rw [hj]; exact mem_lead hp e1
      have l2 : lnk (delT S d x nm n m) x = 0 := by
        have := hl x; rw [if_pos rfl] at this
        have := h.once x m hx hrk; omega
      exact l1 (none_lead l2 (h.rng j q0 e).2)
    · exact h.up j q0 p r e hp0 e2 hrk
  · intro j q hj hq hl0
    have hlj := hl j
    rcases del_get hj with ⟨rfl, rfl⟩ | ⟨_, rfl, rfl⟩ | ⟨_, e1, e⟩
    · rw [if_neg hne] at hlj
      exact h.top j n hd hq (by omega)
    · exact alone_parent (by rw [alone_kind] at hq; exact hq)
    · rw [if_neg (Ne.symm e1)] at hlj
      exact h.top j q e hq (by omega)
  · intro j q hj; obtain ⟨q0, e, _, e3, _⟩ := sm hj; rw [e3]; exact h.size j q0 e
  · obtain ⟨rk, hrk⟩ := h.chain
    refine ⟨rk, fun j q hj hq hnep => ?_⟩
    have gen : ∀ {q0 : Nd}, S j = some q0 → q0.kind = 1 → q0.parent ≠ j → rk q0.parent < rk j ∧ ∃ r, delT S d x nm n m q0.parent = some r ∧ r.kind = 1 := fun {q0} e1 e2 e3 => by
      obtain ⟨g1, r, g2, g3⟩ := hrk j q0 e1 e2 e3
      obtain ⟨r1, g4, g5⟩ := bk g2
      exact ⟨g1, r1, g4, g5.trans g3⟩
    rcases del_get hj with ⟨rfl, rfl⟩ | ⟨_, rfl, rfl⟩ | ⟨_, e1, e⟩
    · exact gen (q0 := n) hd hq hnep
    · exact absurd (alone_parent (by rw [alone_kind] at hq; exact hq)) hnep
    · exact gen e hq hnep
/-- Nothing stands deeper after it. -/
theorem Bel.del {S : Tr} {d x : Nat} {nm : Bytes} {n m : Nd} (hd : S d = some n) (hx : S x = some m) {y k : Nat} (h : Bel (delT S d x nm n m) y k) : Bel S y k := by
  induction h with
  | self => exact .self
  | step h1 h2 h3 _ ih =>
    rcases del_get h1 with ⟨rfl, rfl⟩ | ⟨_, rfl, rfl⟩ | ⟨_, _, e⟩
    · exact .step hd h2 h3 ih
    · exact absurd (alone_parent (by rw [alone_kind] at h2; exact h2)) h3
    · exact .step e h2 h3 ih
end Go.Proofs.Ytafonmnfeibaiaa.IT
