/- A tree of inodes, plain: what always holds of it. No program in sight. -/
import Derived.Test.YtafonmnfeibaiaaITLk
namespace Go.Proofs.Ytafonmnfeibaiaa.IT
open Go.RowKit

/-- Who stands above. -/
def up1 (S : Tr) (k : Nat) : Nat := match S k with
  | some n => n.parent
  | none => k
structure Sound0 (ok : Bytes → Bool) (S : Tr) : Prop where
  rng : ∀ k n, S k = some n → 1 ≤ k ∧ k ≤ 200
  root : ∃ n, S 1 = some n ∧ n.kind = 1 ∧ n.parent = 1
  root0 : lnk S 1 = 0
  kind : ∀ k n, S k = some n → n.kind = 0 ∨ n.kind = 1 ∨ n.kind = 2
  leaf : ∀ k n, S k = some n → n.kind ≠ 1 → n.names = []
  ord : ∀ k n, S k = some n → Ord n.names
  okn : ∀ k n p, S k = some n → p ∈ n.names → ok p.1 = true
  lead : ∀ k n p, S k = some n → p ∈ n.names → ∃ m, S p.2 = some m
  few : ∀ k n, S k = some n → n.names.length ≤ 40
  many : ∀ k, lnk S k ≤ 8
  once : ∀ k n, S k = some n → n.kind = 1 → lnk S k ≤ 1
  up : ∀ k n p m, S k = some n → p ∈ n.names → S p.2 = some m → m.kind = 1 → m.parent = k ∧ p.2 ≠ k
  top : ∀ k n, S k = some n → n.kind = 1 → lnk S k = 0 → n.parent = k
  size : ∀ k n, S k = some n → n.data.length ≤ 4096
  chain : ∃ h : Nat → Nat, ∀ k n, S k = some n → n.kind = 1 → n.parent ≠ k → h n.parent < h k ∧ ∃ m, S n.parent = some m ∧ m.kind = 1
theorem get_upd {S : Tr} {k j : Nat} {o : Option Nd} {m : Nd} (h : upd S k o j = some m) : (j = k ∧ o = some m) ∨ (j ≠ k ∧ S j = some m) := by
  by_cases e : j = k
  · subst e; rw [upd_same] at h; exact .inl ⟨rfl, h⟩
  · rw [upd_other _ _ e] at h; exact .inr ⟨e, h⟩
/-- What always holds between the calls: besides, nobody is there whom nobody holds and nothing leads to. -/
def Sound (ok : Bytes → Bool) (S : Tr) : Prop := Sound0 ok S ∧ ∀ i, ¬ can S i
/-- A node whose place among the others stays. -/
theorem Sound0.same {ok : Bytes → Bool} {S : Tr} (h : Sound0 ok S) {k : Nat} {n n' : Nd} (hk : S k = some n) (hkind : n'.kind = n.kind) (hn : n'.names = n.names) (hp : n'.parent = n.parent) (hsz : n'.data.length ≤ 4096) : Sound0 ok (upd S k (some n')) := by
  have hk2 := (h.rng k n hk).2
  have hl : ∀ x, lnk (upd S k (some n')) x = lnk S x := lnk_same hk2 hk hn
  have tr : ∀ {j m}, upd S k (some n') j = some m → ∃ m0, S j = some m0 ∧ m.kind = m0.kind ∧ m.names = m0.names ∧ m.parent = m0.parent := fun {j m} hj => by
    rcases get_upd hj with ⟨rfl, e⟩ | ⟨_, e⟩
    · obtain rfl := Option.some.inj e
      exact ⟨n, hk, hkind, hn, hp⟩
    · exact ⟨m, e, rfl, rfl, rfl⟩
  have bk : ∀ {j m}, S j = some m → ∃ m1, upd S k (some n') j = some m1 ∧ m1.kind = m.kind := fun {j m} hj => by
    by_cases e : j = k
    · subst e
      rw [hk] at hj
      obtain rfl := Option.some.inj hj
      exact ⟨n', upd_same _ _ _, hkind⟩
    · exact ⟨m, by rw [upd_other _ _ e]; exact hj, rfl⟩
  refine ⟨?_, ?_, ?_, ?_, ?_, ?_, ?_, ?_, ?_, ?_, ?_, ?_, ?_, ?_, ?_⟩
  · intro j m hj; obtain ⟨m0, h1, _⟩ := tr hj; exact h.rng j m0 h1
  · obtain ⟨r, h1, h2, h3⟩ := h.root
    by_cases e : (1 : Nat) = k
    · subst e
      rw [hk] at h1
      obtain rfl := Option.some.inj h1
      exact ⟨n', upd_same _ _ _, hkind.trans h2, hp.trans h3⟩
    · exact ⟨r, by rw [upd_other _ _ e]; exact h1, h2, h3⟩
  · rw [hl]; exact h.root0
  · intro j m hj; obtain ⟨m0, h1, h2, _⟩ := tr hj; rw [h2]; exact h.kind j m0 h1
  · intro j m hj hm; obtain ⟨m0, h1, h2, h3, _⟩ := tr hj; rw [h3]; exact h.leaf j m0 h1 (by rw [← h2]; exact hm)
  · intro j m hj; obtain ⟨m0, h1, _, h3, _⟩ := tr hj; rw [h3]; exact h.ord j m0 h1
  · intro j m p hj hp2; obtain ⟨m0, h1, _, h3, _⟩ := tr hj; rw [h3] at hp2; exact h.okn j m0 p h1 hp2
  · intro j m p hj hp2
    obtain ⟨m0, h1, _, h3, _⟩ := tr hj
    rw [h3] at hp2
    obtain ⟨m2, h4⟩ := h.lead j m0 p h1 hp2
    obtain ⟨m3, h5, _⟩ := bk h4
    exact ⟨m3, h5⟩
  · intro j m hj; obtain ⟨m0, h1, _, h3, _⟩ := tr hj; rw [h3]; exact h.few j m0 h1
  · intro j; rw [hl]; exact h.many j
  · intro j m hj hm; obtain ⟨m0, h1, h2, _⟩ := tr hj; rw [hl]; exact h.once j m0 h1 (by rw [← h2]; exact hm)
  · intro j m p q hj hp2 hq hqk
    obtain ⟨m0, h1, _, h3, _⟩ := tr hj
    rw [h3] at hp2
    obtain ⟨q0, g1, g2, _, g4⟩ := tr hq
    rw [g4]
    exact h.up j m0 p q0 h1 hp2 g1 (by rw [← g2]; exact hqk)
  · intro j m hj hm hl0
    obtain ⟨m0, h1, h2, _, h4⟩ := tr hj
    rw [hl] at hl0
    rw [h4]; exact h.top j m0 h1 (by rw [← h2]; exact hm) hl0
  · intro j m hj
    rcases get_upd hj with ⟨rfl, e⟩ | ⟨_, e⟩
    · obtain rfl := Option.some.inj e; exact hsz
    · exact h.size j m e
  · obtain ⟨rk, hrk⟩ := h.chain
    refine ⟨rk, fun j m hj hm hne => ?_⟩
    obtain ⟨m0, h1, h2, _, h4⟩ := tr hj
    rw [h4] at hne ⊢
    obtain ⟨g1, m2, g2, g3⟩ := hrk j m0 h1 (by rw [← h2]; exact hm) hne
    obtain ⟨m3, g4, g5⟩ := bk g2
    exact ⟨g1, m3, g4, g5.trans g3⟩
theorem lnk_rem (S : Tr) {i : Nat} (hi : i ≤ 200) (x : Nat) : lnk (rem S i) x + leadO x (S i) = lnk S x := by
  have := sum_upd (f := fun j => leadO x (rem S i j)) (g := fun j => leadO x (S j)) (k := i) (fun j hj => by show leadO x (rem S i j) = _; rw [lead_map, if_neg hj]) (List.range 201) List.nodup_range (by simp; omega)
  simp only [lead_map, if_pos] at this
  show ((List.range 201).map fun j => leadO x (rem S i j)).sum + _ = ((List.range 201).map fun j => leadO x (S j)).sum
  simp only [lead_map]
  omega
theorem sum_pos {f : Nat → Nat} : ∀ (l : List Nat), (l.map f).sum ≠ 0 → ∃ k ∈ l, f k ≠ 0
  | [], h => absurd rfl h
  | a :: l, h => by
    simp only [List.map_cons, List.sum_cons] at h
    by_cases h1 : f a = 0
    · obtain ⟨k, hk, h2⟩ := sum_pos (f := f) l (by omega)
      exact ⟨k, by simp [hk], h2⟩
    · exact ⟨a, by simp, h1⟩
theorem lead_mem {x : Nat} {n : Nd} (h : lead x n ≠ 0) : ∃ p ∈ n.names, p.2 = x := by
  unfold lead at h
  cases hl : n.names.filter fun p => decide (p.2 = x) with
  | nil => rw [hl] at h; exact absurd rfl h
  | cons p l =>
    have hm : p ∈ n.names.filter fun p => decide (p.2 = x) := by rw [hl]; simp
    rw [List.mem_filter] at hm
    exact ⟨p, hm.1, of_decide_eq_true hm.2⟩
theorem mem_lead {x : Nat} {n : Nd} {p : Bytes × Nat} (hp : p ∈ n.names) (hx : p.2 = x) : lead x n ≠ 0 := by
  unfold lead
  intro h
  have hm : p ∈ n.names.filter fun p => decide (p.2 = x) := List.mem_filter.2 ⟨hp, decide_eq_true hx⟩
  rw [List.eq_nil_of_length_eq_zero h] at hm
  cases hm
/-- Whom something leads to: from where. -/
theorem lnk_from {S : Tr} {x : Nat} (h : lnk S x ≠ 0) : ∃ k n p, S k = some n ∧ p ∈ n.names ∧ p.2 = x := by
  obtain ⟨k, _, hk⟩ := sum_pos _ h
  cases hS : S k with
  | none => rw [hS] at hk; exact absurd rfl hk
  | some n =>
    rw [hS] at hk
    obtain ⟨p, hp, hx⟩ := lead_mem hk
    exact ⟨k, n, p, hS, hp, hx⟩
theorem sum_ge {f : Nat → Nat} {a b : Nat} (hab : a ≠ b) : ∀ (l : List Nat), a ∈ l → b ∈ l → f a + f b ≤ (l.map f).sum
  | [], h, _ => by cases h
  | c :: l, ha, hb => by
    simp only [List.map_cons, List.sum_cons]
    have one : ∀ {x : Nat} {l : List Nat}, x ∈ l → f x ≤ (l.map f).sum := by
      intro x l
      induction l with
      | nil => intro h; cases h
      | cons y l ih =>
        intro h
        simp only [List.map_cons, List.sum_cons]
        rcases List.mem_cons.1 h with rfl | h
        · omega
        · have := ih h; omega
    by_cases e1 : a = c
    · by_cases e2 : b = c
      · exact absurd (e1.trans e2.symm) hab
      · have h2 := one ((List.mem_cons.1 hb).resolve_left e2)
        rw [← e1]; omega
    · have ha2 := (List.mem_cons.1 ha).resolve_left e1
      by_cases e2 : b = c
      · have h1 := one ha2
        rw [← e2]; omega
      · have := sum_ge (f := f) hab l ha2 ((List.mem_cons.1 hb).resolve_left e2)
        omega
/-- Two that lead to one. -/
theorem lnk_two {S : Tr} {x a b : Nat} (hab : a ≠ b) (ha : a ≤ 200) (hb : b ≤ 200) (h1 : leadO x (S a) ≠ 0) (h2 : leadO x (S b) ≠ 0) : 2 ≤ lnk S x := by
  have := sum_ge (f := fun k => leadO x (S k)) hab (List.range 201) (by simp; omega) (by simp; omega)
  unfold lnk
  omega
theorem rem_get {S : Tr} {i j : Nat} {m : Nd} (h : rem S i j = some m) : j ≠ i ∧ ∃ m0, S j = some m0 ∧ ((leadO j (S i) = 0 ∧ m = m0) ∨ (leadO j (S i) ≠ 0 ∧ m = alone j m0)) := by
  unfold rem at h
  by_cases e : j = i
  · rw [if_pos e] at h; cases h
  · rw [if_neg e] at h
    refine ⟨e, ?_⟩
    by_cases hl : leadO j (S i) = 0
    · rw [if_pos hl] at h; exact ⟨m, h, .inl ⟨hl, rfl⟩⟩
    · rw [if_neg hl] at h
      cases hj : S j with
      | none => rw [hj] at h; cases h
      | some m0 => rw [hj] at h; exact ⟨m0, rfl, .inr ⟨hl, (Option.some.inj h).symm⟩⟩
theorem rem_some {S : Tr} {i j : Nat} {m : Nd} (h : S j = some m) (hj : j ≠ i) : ∃ m1, rem S i j = some m1 ∧ m1.kind = m.kind := by
  unfold rem
  rw [if_neg hj, h]
  by_cases hl : leadO j (S i) = 0
  · rw [if_pos hl]; exact ⟨m, rfl, rfl⟩
  · rw [if_neg hl]; exact ⟨alone j m, rfl, alone_kind _ _⟩
theorem alone_data (x : Nat) (n : Nd) : (alone x n).data = n.data := by unfold alone; split <;> rfl
/-- One that may go, goes. -/
theorem Sound0.rem {ok : Bytes → Bool} {S : Tr} (h : Sound0 ok S) {i : Nat} (hi : can S i) : Sound0 ok (rem S i) := by
  have tr : ∀ {j m}, IT.rem S i j = some m → j ≠ i ∧ ∃ m0, S j = some m0 ∧ m.kind = m0.kind ∧ m.names = m0.names ∧ m.data = m0.data ∧ ((leadO j (S i) = 0 ∧ m = m0) ∨ (leadO j (S i) ≠ 0 ∧ m = alone j m0)) := fun {j m} hj => by
    obtain ⟨e, m0, h1, h2⟩ := rem_get hj
    refine ⟨e, m0, h1, ?_⟩
    rcases h2 with ⟨a, rfl⟩ | ⟨a, rfl⟩
    · exact ⟨rfl, rfl, rfl, .inl ⟨a, rfl⟩⟩
    · exact ⟨alone_kind _ _, alone_names _ _, alone_data _ _, .inr ⟨a, rfl⟩⟩
  have hle : ∀ x, lnk (IT.rem S i) x ≤ lnk S x := lnk_rem_le S i
  have noto : ∀ {j m p}, S j = some m → p ∈ m.names → p.2 ≠ i := fun {j m p} hj hp e => by
    have h1 : leadO i (S j) ≠ 0 := by rw [hj]; exact mem_lead hp e
    exact h1 (none_lead hi.2.2.2 (h.rng j m hj).2)
  refine ⟨?_, ?_, ?_, ?_, ?_, ?_, ?_, ?_, ?_, ?_, ?_, ?_, ?_, ?_, ?_⟩
  · intro j m hj; obtain ⟨_, m0, h1, _⟩ := tr hj; exact h.rng j m0 h1
  · obtain ⟨r, h1, h2, h3⟩ := h.root
    refine ⟨r, ?_, h2, h3⟩
    rw [rem_keep hi.2.1 h.root0 (Ne.symm hi.1)]; exact h1
  · have := hle 1; have := h.root0; omega
  · intro j m hj; obtain ⟨_, m0, h1, h2, _⟩ := tr hj; rw [h2]; exact h.kind j m0 h1
  · intro j m hj hm; obtain ⟨_, m0, h1, h2, h3, _⟩ := tr hj; rw [h3]; exact h.leaf j m0 h1 (by rw [← h2]; exact hm)
  · intro j m hj; obtain ⟨_, m0, h1, _, h3, _⟩ := tr hj; rw [h3]; exact h.ord j m0 h1
  · intro j m p hj hp; obtain ⟨_, m0, h1, _, h3, _⟩ := tr hj; rw [h3] at hp; exact h.okn j m0 p h1 hp
  · intro j m p hj hp
    obtain ⟨_, m0, h1, _, h3, _⟩ := tr hj
    rw [h3] at hp
    obtain ⟨m2, h4⟩ := h.lead j m0 p h1 hp
    obtain ⟨m3, h5, _⟩ := rem_some (i := i) h4 (noto h1 hp)
    exact ⟨m3, h5⟩
  · intro j m hj; obtain ⟨_, m0, h1, _, h3, _⟩ := tr hj; rw [h3]; exact h.few j m0 h1
  · intro j; exact Nat.le_trans (hle j) (h.many j)
  · intro j m hj hm; obtain ⟨_, m0, h1, h2, _⟩ := tr hj; exact Nat.le_trans (hle j) (h.once j m0 h1 (by rw [← h2]; exact hm))
  · intro j m p q hj hp hq hqk
    obtain ⟨hji, m0, h1, _, h3, _⟩ := tr hj
    rw [h3] at hp
    obtain ⟨_, q0, g1, g2, _, _, g5⟩ := tr hq
    rcases g5 with ⟨_, rfl⟩ | ⟨a, rfl⟩
    · exact h.up j m0 p q h1 hp g1 hqk
    · exfalso
      have l1 : leadO p.2 (S j) ≠ 0 := by rw [h1]; exact mem_lead hp rfl
      have := lnk_two hji (h.rng j m0 h1).2 hi.2.1 l1 a
      have := h.once p.2 q0 g1 (by rw [← g2]; exact hqk)
      omega
  · intro j m hj hm hl0
    obtain ⟨_, m0, h1, h2, _, _, h5⟩ := tr hj
    rcases h5 with ⟨a, rfl⟩ | ⟨a, rfl⟩
    · have := lnk_rem S hi.2.1 j
      exact h.top j m h1 hm (by omega)
    · unfold alone
      rw [if_pos (by rw [← h2]; exact hm)]
  · intro j m hj; obtain ⟨_, m0, h1, _, _, h4, _⟩ := tr hj; rw [h4]; exact h.size j m0 h1
  · obtain ⟨rk, hrk⟩ := h.chain
    refine ⟨rk, fun j m hj hm hne => ?_⟩
    obtain ⟨hji, m0, h1, h2, _, _, h5⟩ := tr hj
    rcases h5 with ⟨a, rfl⟩ | ⟨a, rfl⟩
    · obtain ⟨g1, m2, g2, g3⟩ := hrk j m h1 hm hne
      have hpi : m.parent ≠ i := fun e => by
        by_cases hl : lnk S j = 0
        · exact hne (h.top j m h1 hm hl)
        · obtain ⟨d, n, p, hd, hp, hx⟩ := lnk_from hl
          have hup := h.up d n p m hd hp (by rw [hx]; exact h1) hm
          rw [hup.1] at e
          subst e
          rw [hd] at a
          exact mem_lead hp hx a
      obtain ⟨m3, g4, g5⟩ := rem_some (i := i) g2 hpi
      exact ⟨g1, m3, g4, g5.trans g3⟩
    · exfalso
      apply hne
      unfold alone
      rw [if_pos (by rw [← h2]; exact hm)]
/-- What is left is sound. -/
theorem NF.sound {ok : Bytes → Bool} {S A : Tr} (h : NF S A) : Sound0 ok S → Sound ok A := by
  induction h with
  | done hn => intro hs; exact ⟨hs, hn⟩
  | step hc _ ih => intro hs; exact ih (hs.rem hc)
end Go.Proofs.Ytafonmnfeibaiaa.IT
