/- A tree of inodes, plain: one more. No program in sight. -/
import Derived.Test.YtafonmnfeibaiaaITSo
namespace Go.Proofs.Ytafonmnfeibaiaa.IT
open Go.RowKit

/-- Nothing leads to what is not there. -/
theorem Sound0.free {ok : Bytes → Bool} {S : Tr} (h : Sound0 ok S) {k : Nat} (hk : S k = none) : lnk S k = 0 := by
  cases hz : decide (lnk S k = 0) with
  | true => exact of_decide_eq_true hz
  | false =>
    obtain ⟨d, n, p, h1, h2, h3⟩ := lnk_from (of_decide_eq_false hz)
    obtain ⟨m, hm⟩ := h.lead d n p h1 h2
    rw [h3, hk] at hm
    cases hm
/-- A new one. -/
theorem Sound.make {ok : Bytes → Bool} {S : Tr} (h : Sound ok S) {k : Nat} {n : Nd} (hk : S k = none) (h1 : 1 ≤ k) (h2 : k ≤ 200) (hkind : n.kind = 0 ∨ n.kind = 1 ∨ n.kind = 2) (hn : n.names = []) (hp : n.kind = 1 → n.parent = k) (hd : n.data = []) (hh : n.holds ≠ 0) : Sound ok (upd S k (some n)) := by
  obtain ⟨h0, hst⟩ := h
  have hl0 : ∀ x, leadO x (some n) = 0 := fun x => by show lead x n = 0; unfold lead; rw [hn]; rfl
  have hl : ∀ x, lnk (upd S k (some n)) x = lnk S x := fun x => by
    have e := lnk_upd S h2 (some n) x
    have e1 : leadO x (some n) = 0 := hl0 x
    rw [hk] at e
    show lnk (upd S k (some n)) x = _
    have e2 : leadO x none = 0 := rfl
    omega
  have bk : ∀ {j m}, S j = some m → upd S k (some n) j = some m := fun {j m} hj => by
    rw [upd_other _ _ (fun e => by rw [e, hk] at hj; cases hj)]; exact hj
  have hf := h0.free hk
  refine ⟨⟨?_, ?_, ?_, ?_, ?_, ?_, ?_, ?_, ?_, ?_, ?_, ?_, ?_, ?_, ?_⟩, ?_⟩
  · intro j m hj
    rcases get_upd hj with ⟨rfl, _⟩ | ⟨_, e⟩
    · exact ⟨h1, h2⟩
    · exact h0.rng j m e
  · obtain ⟨r, r1, r2, r3⟩ := h0.root
    exact ⟨r, bk r1, r2, r3⟩
  · rw [hl]; exact h0.root0
  · intro j m hj
    rcases get_upd hj with ⟨rfl, e⟩ | ⟨_, e⟩
    · obtain rfl := Option.some.inj e; exact hkind
    · exact h0.kind j m e
  · intro j m hj hm
    rcases get_upd hj with ⟨rfl, e⟩ | ⟨_, e⟩
    · obtain rfl := Option.some.inj e; exact hn
    · exact h0.leaf j m e hm
  · intro j m hj
    rcases get_upd hj with ⟨rfl, e⟩ | ⟨_, e⟩
    · obtain rfl := Option.some.inj e; rw [hn]; exact List.Pairwise.nil
    · exact h0.ord j m e
  · intro j m p hj hp2
    rcases get_upd hj with ⟨rfl, e⟩ | ⟨_, e⟩
    · obtain rfl := Option.some.inj e; rw [hn] at hp2; cases hp2
    · exact h0.okn j m p e hp2
  · intro j m p hj hp2
    rcases get_upd hj with ⟨rfl, e⟩ | ⟨_, e⟩
    · obtain rfl := Option.some.inj e; rw [hn] at hp2; cases hp2
    · obtain ⟨m2, e2⟩ := h0.lead j m p e hp2
      exact ⟨m2, bk e2⟩
  · intro j m hj
    rcases get_upd hj with ⟨rfl, e⟩ | ⟨_, e⟩
    · obtain rfl := Option.some.inj e; rw [hn]; simp
    · exact h0.few j m e
  · intro j; rw [hl]; exact h0.many j
  · intro j m hj hm
    rw [hl]
    rcases get_upd hj with ⟨rfl, e⟩ | ⟨_, e⟩
    · omega
    · exact h0.once j m e hm
  · intro j m p q hj hp2 hq hqk
    rcases get_upd hj with ⟨rfl, e⟩ | ⟨_, e⟩
    · obtain rfl := Option.some.inj e; rw [hn] at hp2; cases hp2
    · rcases get_upd hq with ⟨e3, _⟩ | ⟨_, e2⟩
      · obtain ⟨m2, e4⟩ := h0.lead j m p e hp2
        rw [e3, hk] at e4; cases e4
      · exact h0.up j m p q e hp2 e2 hqk
  · intro j m hj hm hlk
    rw [hl] at hlk
    rcases get_upd hj with ⟨rfl, e⟩ | ⟨_, e⟩
    · obtain rfl := Option.some.inj e; exact hp hm
    · exact h0.top j m e hm hlk
  · intro j m hj
    rcases get_upd hj with ⟨rfl, e⟩ | ⟨_, e⟩
    · obtain rfl := Option.some.inj e; rw [hd]; simp
    · exact h0.size j m e
  · obtain ⟨rk, hrk⟩ := h0.chain
    refine ⟨rk, fun j m hj hm hne => ?_⟩
    rcases get_upd hj with ⟨rfl, e⟩ | ⟨_, e⟩
    · obtain rfl := Option.some.inj e; exact absurd (hp hm) hne
    · obtain ⟨g1, m2, g2, g3⟩ := hrk j m e hm hne
      exact ⟨g1, m2, bk g2, g3⟩
  · intro i ⟨c1, c2, ⟨m, hm, c3⟩, c4⟩
    rw [hl] at c4
    rcases get_upd hm with ⟨rfl, e⟩ | ⟨_, e⟩
    · obtain rfl := Option.some.inj e; exact hh c3
    · exact hst i ⟨c1, c2, ⟨m, e, c3⟩, c4⟩
/-- The tree of a root alone. -/
def rootT (m o g : Int) : Tr := fun k => if k = 1 then some ⟨1, m, o, g, 0, 0, [], [], 1⟩ else none
theorem rootT_get {m o g : Int} {k : Nat} {n : Nd} (h : rootT m o g k = some n) : k = 1 ∧ n = ⟨1, m, o, g, 0, 0, [], [], 1⟩ := by
  unfold rootT at h
  by_cases e : k = 1
  · rw [if_pos e] at h; exact ⟨e, (Option.some.inj h).symm⟩
  · rw [if_neg e] at h; cases h
theorem rootT_lnk (m o g : Int) (x : Nat) : lnk (rootT m o g) x = 0 := by
  cases hz : decide (lnk (rootT m o g) x = 0) with
  | true => exact of_decide_eq_true hz
  | false =>
    obtain ⟨d, n, p, h1, h2, _⟩ := lnk_from (of_decide_eq_false hz)
    obtain ⟨_, rfl⟩ := rootT_get h1
    cases h2
theorem rootT_sound (ok : Bytes → Bool) (m o g : Int) : Sound ok (rootT m o g) := by
  have hr : rootT m o g 1 = some ⟨1, m, o, g, 0, 0, [], [], 1⟩ := if_pos rfl
  refine ⟨⟨?_, ⟨_, hr, rfl, rfl⟩, rootT_lnk _ _ _ _, ?_, ?_, ?_, ?_, ?_, ?_, ?_, ?_, ?_, ?_, ?_, ⟨fun _ => 0, ?_⟩⟩, ?_⟩
  · intro k n h; obtain ⟨rfl, _⟩ := rootT_get h; omega
  · intro k n h; obtain ⟨_, rfl⟩ := rootT_get h; exact .inr (.inl rfl)
  · intro k n h _; obtain ⟨_, rfl⟩ := rootT_get h; rfl
  · intro k n h; obtain ⟨_, rfl⟩ := rootT_get h; exact List.Pairwise.nil
  · intro k n p h hp; obtain ⟨_, rfl⟩ := rootT_get h; cases hp
  · intro k n p h hp; obtain ⟨_, rfl⟩ := rootT_get h; cases hp
  · intro k n h; obtain ⟨_, rfl⟩ := rootT_get h; simp
  · intro k; rw [rootT_lnk]; omega
  · intro k n h _; rw [rootT_lnk]; omega
  · intro k n p q h hp; obtain ⟨_, rfl⟩ := rootT_get h; cases hp
  · intro k n h _ _; obtain ⟨rfl, rfl⟩ := rootT_get h; rfl
  · intro k n h; obtain ⟨_, rfl⟩ := rootT_get h; simp
  · intro k n h _ hne; obtain ⟨rfl, rfl⟩ := rootT_get h; exact absurd rfl hne
  · intro i ⟨c1, _, ⟨n, hn, _⟩, _⟩; exact c1 (rootT_get hn).1
end Go.Proofs.Ytafonmnfeibaiaa.IT
