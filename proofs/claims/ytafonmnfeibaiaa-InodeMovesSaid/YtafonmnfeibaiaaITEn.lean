/- A tree of inodes, plain: an entry more. No program in sight. -/
import Derived.Test.YtafonmnfeibaiaaITSo
namespace Go.Proofs.Ytafonmnfeibaiaa.IT
open Go.RowKit

theorem ord_ins {nm : Bytes} {x : Nat} : ∀ {l : List (Bytes × Nat)}, Ord l → (∀ p ∈ l, p.1 ≠ nm) → Ord (insN nm x l)
  | [], _, _ => List.pairwise_singleton _ _
  | q :: l, ho, hn => by
    have ho2 := List.pairwise_cons.1 ho
    unfold insN
    by_cases hq : q.1 < nm
    · rw [if_pos hq]
      refine List.pairwise_cons.2 ⟨fun p hp => ?_, ord_ins ho2.2 fun p hp => hn p (List.mem_cons_of_mem _ hp)⟩
      rcases List.mem_cons.1 ((ins_perm nm x l).mem_iff.1 hp) with rfl | hp
      · exact hq
      · exact ho2.1 p hp
    · rw [if_neg hq]
      have hlt : nm < q.1 := by
        rcases Decidable.em (nm < q.1) with h | h
        · exact h
        · exact absurd (List.le_antisymm (List.not_lt.1 h) (List.not_lt.1 hq)) (hn q (by simp))
      refine List.pairwise_cons.2 ⟨fun p hp => ?_, ho⟩
      rcases List.mem_cons.1 hp with rfl | hp
      · exact hlt
      · exact List.lt_trans hlt (ho2.1 p hp)
/-- Within: one above it is that one. -/
inductive Bel (S : Tr) (x : Nat) : Nat → Prop
  | self : Bel S x x
  | step {k : Nat} {n : Nd} : S k = some n → n.kind = 1 → n.parent ≠ k → Bel S x n.parent → Bel S x k
theorem Bel.up {S : Tr} {x k : Nat} {n : Nd} (h : Bel S x k) (hk : S k = some n) (hx : k ≠ x) : Bel S x n.parent := by
  cases h with
  | self => exact absurd rfl hx
  | step h1 _ _ h4 => rw [hk] at h1; obtain rfl := Option.some.inj h1; exact h4
def under (d : Nat) (m : Nd) : Nd := if m.kind = 1 then { m with parent := d } else m
theorem under_names (x : Nat) (n : Nd) : (under x n).names = n.names := by unfold under; split <;> rfl
theorem under_kind (x : Nat) (n : Nd) : (under x n).kind = n.kind := by unfold under; split <;> rfl
theorem under_data (x : Nat) (n : Nd) : (under x n).data = n.data := by unfold under; split <;> rfl
theorem under_holds (x : Nat) (n : Nd) : (under x n).holds = n.holds := by unfold under; split <;> rfl
theorem under_parent {x : Nat} {n : Nd} (h : n.kind = 1) : (under x n).parent = x := by unfold under; rw [if_pos h]
/-- An entry more. -/
def entT (S : Tr) (d x : Nat) (nm : Bytes) (n m : Nd) : Tr := upd (upd S x (some (under d m))) d (some { n with names := insN nm x n.names })
theorem ent_lnk {S : Tr} {d x : Nat} {nm : Bytes} {n m : Nd} (hd : S d = some n) (hx : S x = some m) (hne : x ≠ d) (hd2 : d ≤ 200) (hx2 : x ≤ 200) (y : Nat) : lnk (entT S d x nm n m) y = lnk S y + if x = y then 1 else 0 := by
  unfold entT
  have h1 := lnk_upd (upd S x (some (under d m))) hd2 (some { n with names := insN nm x n.names }) y
  rw [upd_other _ _ (Ne.symm hne), hd, lnk_same hx2 hx (under_names d m)] at h1
  have h2 : leadO y (some { n with names := insN nm x n.names }) = leadO y (some n) + if x = y then 1 else 0 := ins_lead nm x y n.names
  omega
theorem Sound0.enter {ok : Bytes → Bool} {S : Tr} (h : Sound0 ok S) {d x : Nat} {nm : Bytes} {n m : Nd} (hd : S d = some n) (hdk : n.kind = 1) (hx : S x = some m) (hf : ∀ p ∈ n.names, p.1 ≠ nm) (hok : ok nm = true) (h40 : n.names.length < 40) (h8 : lnk S x < 8) (hdir : m.kind = 1 → x ≠ 1 ∧ lnk S x = 0 ∧ ¬ Bel S x d) : Sound0 ok (entT S d x nm n m) := by
  have hne : x ≠ d := fun e => by
    subst e; rw [hd] at hx; obtain rfl := Option.some.inj hx
    exact (hdir hdk).2.2 Bel.self
  have hx1 : x ≠ 1 := fun e => by
    subst e
    obtain ⟨r, h1, h2, _⟩ := h.root
    rw [hx] at h1; obtain rfl := Option.some.inj h1
    exact (hdir h2).1 rfl
  have hl : ∀ y, lnk (entT S d x nm n m) y = lnk S y + if x = y then 1 else 0 := ent_lnk hd hx hne (h.rng d n hd).2 (h.rng x m hx).2
  -- who stands there, was there
  have tr : ∀ {j q}, entT S d x nm n m j = some q → (j = d ∧ q = { n with names := insN nm x n.names }) ∨ (j ≠ d ∧ j = x ∧ q = under d m) ∨ (j ≠ d ∧ j ≠ x ∧ S j = some q) := fun {j q} hj => by
    unfold entT at hj
    rcases get_upd hj with ⟨rfl, e⟩ | ⟨e1, e⟩
    · exact .inl ⟨rfl, (Option.some.inj e).symm⟩
    · rcases get_upd e with ⟨rfl, e2⟩ | ⟨e2, e3⟩
      · exact .inr (.inl ⟨e1, rfl, (Option.some.inj e2).symm⟩)
      · exact .inr (.inr ⟨e1, e2, e3⟩)
  have bk : ∀ {j q}, S j = some q → ∃ q1, entT S d x nm n m j = some q1 ∧ q1.kind = q.kind := fun {j q} hj => by
    unfold entT
    by_cases e : j = d
    · subst e; rw [hd] at hj; obtain rfl := Option.some.inj hj
      exact ⟨_, upd_same _ _ _, rfl⟩
    · rw [upd_other _ _ e]
      by_cases e2 : j = x
      · subst e2; rw [hx] at hj; obtain rfl := Option.some.inj hj
        exact ⟨_, upd_same _ _ _, under_kind _ _⟩
      · exact ⟨q, by rw [upd_other _ _ e2]; exact hj, rfl⟩
  have mem : ∀ {p : Bytes × Nat}, p ∈ insN nm x n.names → p = (nm, x) ∨ p ∈ n.names := fun {p} hp => List.mem_cons.1 ((ins_perm nm x n.names).mem_iff.1 hp)
  -- all but the names and the parent
  have sm : ∀ {j q}, entT S d x nm n m j = some q → ∃ q0, S j = some q0 ∧ q.kind = q0.kind ∧ q.data = q0.data := fun {j q} hj => by
    rcases tr hj with ⟨rfl, rfl⟩ | ⟨_, rfl, rfl⟩ | ⟨_, _, e⟩
    · exact ⟨n, hd, rfl, rfl⟩
    · exact ⟨m, hx, under_kind _ _, under_data _ _⟩
    · exact ⟨q, e, rfl, rfl⟩
  have nms : ∀ {j q p}, entT S d x nm n m j = some q → p ∈ q.names → (j = d ∧ p = (nm, x)) ∨ (∃ q0, S j = some q0 ∧ p ∈ q0.names) := fun {j q p} hj hp => by
    rcases tr hj with ⟨rfl, rfl⟩ | ⟨_, rfl, rfl⟩ | ⟨_, _, e⟩
    · rcases mem hp with rfl | hp
      · exact .inl ⟨rfl, rfl⟩
      · exact .inr ⟨n, hd, hp⟩
    · rw [under_names] at hp; exact .inr ⟨m, hx, hp⟩
    · exact .inr ⟨q, e, hp⟩
  refine ⟨?_, ?_, ?_, ?_, ?_, ?_, ?_, ?_, ?_, ?_, ?_, ?_, ?_, ?_, ?_⟩
  · intro j q hj; obtain ⟨q0, e, _⟩ := sm hj; exact h.rng j q0 e
  · obtain ⟨r, h1, h2, h3⟩ := h.root
    by_cases e : (1 : Nat) = d
    · subst e; rw [hd] at h1; obtain rfl := Option.some.inj h1
      exact ⟨_, upd_same _ _ _, h2, h3⟩
    · refine ⟨r, ?_, h2, h3⟩
      unfold entT
      rw [upd_other _ _ e, upd_other _ _ (Ne.symm hx1)]; exact h1
  · have := h.root0
    rw [hl, if_neg hx1]; omega
  · intro j q hj; obtain ⟨q0, e, e2, _⟩ := sm hj; rw [e2]; exact h.kind j q0 e
  · intro j q hj hq
    rcases tr hj with ⟨rfl, rfl⟩ | ⟨_, rfl, rfl⟩ | ⟨_, _, e⟩
    · exact absurd hdk hq
    · rw [under_names]; exact h.leaf j m hx (by rw [under_kind] at hq; exact hq)
    · exact h.leaf j q e hq
  · intro j q hj
    rcases tr hj with ⟨rfl, rfl⟩ | ⟨_, rfl, rfl⟩ | ⟨_, _, e⟩
    · exact ord_ins (h.ord j n hd) hf
    · rw [under_names]; exact h.ord j m hx
    · exact h.ord j q e
  · intro j q p hj hp
    rcases nms hj hp with ⟨_, rfl⟩ | ⟨q0, e, hp⟩
    · exact hok
    · exact h.okn j q0 p e hp
  · intro j q p hj hp
    rcases nms hj hp with ⟨_, rfl⟩ | ⟨q0, e, hp⟩
    · obtain ⟨q1, e1, _⟩ := bk hx; exact ⟨q1, e1⟩
    · obtain ⟨m2, e2⟩ := h.lead j q0 p e hp
      obtain ⟨q1, e1, _⟩ := bk e2; exact ⟨q1, e1⟩
  · intro j q hj
    rcases tr hj with ⟨rfl, rfl⟩ | ⟨_, rfl, rfl⟩ | ⟨_, _, e⟩
    · show (insN nm x n.names).length ≤ 40
      rw [ins_len]; omega
    · rw [under_names]; exact h.few j m hx
    · exact h.few j q e
  · intro j; rw [hl]
    have := h.many j
    by_cases e : x = j
    · subst e; rw [if_pos rfl]; omega
    · rw [if_neg e]; omega
  · intro j q hj hq
    obtain ⟨q0, e, e2, _⟩ := sm hj
    rw [hl]
    by_cases e3 : x = j
    · subst e3; rw [hx] at e; obtain rfl := Option.some.inj e
      rw [if_pos rfl, (hdir (by rw [← e2]; exact hq)).2.1]; omega
    · have := h.once j q0 e (by rw [← e2]; exact hq)
      rw [if_neg e3]; omega
  · intro j q p r hj hp hr hrk
    rcases nms hj hp with ⟨rfl, rfl⟩ | ⟨q0, e, hp⟩
    · rcases tr hr with ⟨e1, _⟩ | ⟨_, _, rfl⟩ | ⟨_, e2, _⟩
      · exact absurd e1 hne
      · exact ⟨under_parent (by rw [under_kind] at hrk; exact hrk), hne⟩
      · exact absurd rfl e2
    · rcases tr hr with ⟨e1, rfl⟩ | ⟨_, e1, rfl⟩ | ⟨_, _, e2⟩
      · exact h.up j q0 p n e hp (by rw [e1]; exact hd) hdk
      · exfalso
        have hk2 := hrk; rw [under_kind] at hk2
        have l1 : leadO x (S j) ≠ 0 := by rw [e]; exact mem_lead hp e1
        exact l1 (none_lead (hdir hk2).2.1 (h.rng j q0 e).2)
      · exact h.up j q0 p r e hp e2 hrk
  · intro j q hj hq hl0
    rw [hl] at hl0
    rcases tr hj with ⟨rfl, rfl⟩ | ⟨_, rfl, rfl⟩ | ⟨_, _, e⟩
    · exact h.top j n hd hq (by omega)
    · rw [if_pos rfl] at hl0; omega
    · exact h.top j q e hq (by omega)
  · intro j q hj; obtain ⟨q0, e, _, e3⟩ := sm hj; rw [e3]; exact h.size j q0 e
  · obtain ⟨rk, hrk⟩ := h.chain
    have hdec : ∀ k, Decidable (Bel S x k) := fun k => Classical.propDecidable _
    refine ⟨fun k => @ite _ (Bel S x k ∧ m.kind = 1) (Classical.propDecidable _) (rk k + rk d + 1) (rk k), fun j q hj hq hnep => ?_⟩
    by_cases hmk : m.kind = 1
    · have hnb := (hdir hmk).2.2
      have gen : ∀ {q0 : Nd}, S j = some q0 → q0.kind = 1 → q0.parent ≠ j → j ≠ x → (@ite _ (Bel S x q0.parent ∧ m.kind = 1) (Classical.propDecidable _) (rk q0.parent + rk d + 1) (rk q0.parent)) < (@ite _ (Bel S x j ∧ m.kind = 1) (Classical.propDecidable _) (rk j + rk d + 1) (rk j)) ∧ ∃ r, entT S d x nm n m q0.parent = some r ∧ r.kind = 1 := fun {q0} e1 e2 e3 e4 => by
        obtain ⟨g1, r, g2, g3⟩ := hrk j q0 e1 e2 e3
        obtain ⟨r1, g4, g5⟩ := bk g2
        refine ⟨?_, r1, g4, g5.trans g3⟩
        by_cases hb : Bel S x j
        · rw [if_pos ⟨hb.up e1 e4, hmk⟩, if_pos ⟨hb, hmk⟩]; omega
        · rw [if_neg (fun hh => hb (Bel.step e1 e2 e3 hh.1)), if_neg (fun hh => hb hh.1)]; exact g1
      rcases tr hj with ⟨rfl, rfl⟩ | ⟨_, rfl, rfl⟩ | ⟨_, e1, e⟩
      · exact gen (q0 := n) hd hdk hnep (Ne.symm hne)
      · rw [under_parent hmk]
        obtain ⟨r1, g4, g5⟩ := bk hd
        refine ⟨?_, r1, g4, g5.trans hdk⟩
        show (@ite _ (Bel S j d ∧ m.kind = 1) (Classical.propDecidable _) (rk d + rk d + 1) (rk d)) < (@ite _ (Bel S j j ∧ m.kind = 1) (Classical.propDecidable _) (rk j + rk d + 1) (rk j))
        rw [if_neg (fun hh => hnb hh.1), if_pos ⟨Bel.self, hmk⟩]; omega
      · exact gen e hq hnep e1
    · show (@ite _ (Bel S x q.parent ∧ m.kind = 1) (Classical.propDecidable _) (rk q.parent + rk d + 1) (rk q.parent)) < (@ite _ (Bel S x j ∧ m.kind = 1) (Classical.propDecidable _) (rk j + rk d + 1) (rk j)) ∧ _
      rw [if_neg (fun hh => hmk hh.2), if_neg (fun hh => hmk hh.2)]
      have gen : ∀ {q0 : Nd}, S j = some q0 → q0.kind = 1 → q0.parent ≠ j → rk q0.parent < rk j ∧ ∃ r, entT S d x nm n m q0.parent = some r ∧ r.kind = 1 := fun {q0} e1 e2 e3 => by
        obtain ⟨g1, r, g2, g3⟩ := hrk j q0 e1 e2 e3
        obtain ⟨r1, g4, g5⟩ := bk g2
        exact ⟨g1, r1, g4, g5.trans g3⟩
      rcases tr hj with ⟨rfl, rfl⟩ | ⟨_, rfl, rfl⟩ | ⟨_, e1, e⟩
      · exact gen (q0 := n) hd hdk hnep
      · exfalso; rw [under_kind] at hq; exact hmk hq
      · exact gen e hq hnep
end Go.Proofs.Ytafonmnfeibaiaa.IT
