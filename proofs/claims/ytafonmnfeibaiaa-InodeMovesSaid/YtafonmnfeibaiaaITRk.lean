/- A tree of inodes, plain: no way up is longer than the inodes that there are. No program in sight. -/
import Derived.Test.YtafonmnfeibaiaaITSt
namespace Go.Proofs.Ytafonmnfeibaiaa.IT
open Go.RowKit Classical

theorem sum_lt {f g : Nat → Nat} {a : Nat} : ∀ (l : List Nat), (∀ k ∈ l, f k ≤ g k) → a ∈ l → f a < g a → (l.map f).sum < (l.map g).sum
  | [], _, h, _ => by cases h
  | c :: l, h, ha, hlt => by
    simp only [List.map_cons, List.sum_cons]
    have h1 := h c (by simp)
    have h2 := sum_le l (fun k hk => h k (by simp [hk]))
    rcases List.mem_cons.1 ha with e | ha
    · subst e; omega
    · have := sum_lt (f := f) (g := g) l (fun k hk => h k (by simp [hk])) ha hlt
      omega
/-- How many there are below a rank. -/
noncomputable def under1 (S : Tr) (h : Nat → Nat) (k j : Nat) : Nat := if S j ≠ none ∧ h j < h k then 1 else 0
noncomputable def rk2 (S : Tr) (h : Nat → Nat) (k : Nat) : Nat := ((List.range 201).map (under1 S h k)).sum
theorem rk2_lt {S : Tr} {h : Nat → Nat} {a b : Nat} (ha : S a ≠ none) (ha2 : a ≤ 200) (hlt : h a < h b) : rk2 S h a < rk2 S h b := by
  unfold rk2
  refine sum_lt (a := a) _ (fun k _ => ?_) (by simp; omega) ?_
  · unfold under1
    by_cases e : S k ≠ none ∧ h k < h a
    · rw [if_pos e, if_pos ⟨e.1, by omega⟩]; omega
    · rw [if_neg e]; omega
  · unfold under1
    rw [if_neg (fun e => Nat.lt_irrefl _ e.2), if_pos ⟨ha, hlt⟩]; omega
theorem ones_sum : ((List.range 201).map fun j => if j = 0 then 0 else 1).sum = 200 := by decide +kernel
theorem rk2_small {S : Tr} {h : Nat → Nat} {k : Nat} (h0 : S 0 = none) (hk : S k ≠ none) (hk2 : k ≤ 200) : rk2 S h k < 200 := by
  rw [← ones_sum]
  unfold rk2
  refine sum_lt (a := k) _ (fun j _ => ?_) (by simp; omega) ?_
  · unfold under1
    by_cases e : S j ≠ none ∧ h j < h k
    · rw [if_pos e, if_neg (fun e2 => e.1 (by rw [e2]; exact h0))]; omega
    · rw [if_neg e]; omega
  · unfold under1
    rw [if_neg (fun e => Nat.lt_irrefl _ e.2), if_neg (fun e2 => hk (by rw [e2]; exact h0))]; omega
theorem Sound0.no0 {ok : Bytes → Bool} {S : Tr} (h : Sound0 ok S) : S 0 = none := by
  cases h0 : S 0 with
  | none => rfl
  | some n => have := h.rng 0 n h0; omega
theorem Sound0.rank {ok : Bytes → Bool} {S : Tr} (hs : Sound0 ok S) : ∃ h : Nat → Nat, (∀ k n, S k = some n → h k < 200) ∧ ∀ k n, S k = some n → n.kind = 1 → n.parent ≠ k → h n.parent < h k ∧ ∃ m, S n.parent = some m ∧ m.kind = 1 := by
  obtain ⟨rk, hrk⟩ := hs.chain
  refine ⟨rk2 S rk, fun k n hk => rk2_small hs.no0 (by rw [hk]; intro e; cases e) (hs.rng k n hk).2, fun k n hk hkind hne => ?_⟩
  obtain ⟨g1, m, g2, g3⟩ := hrk k n hk hkind hne
  exact ⟨rk2_lt (by rw [g2]; intro e; cases e) (hs.rng _ m g2).2 g1, m, g2, g3⟩
/-- A step up; where one stands after some. -/
def above (S : Tr) : Nat → Nat → Nat
  | 0, k => k
  | j + 1, k => above S j (up1 S k)
/-- One comes to the top in fewer than two hundred steps. -/
theorem Sound0.top_of {ok : Bytes → Bool} {S : Tr} (hs : Sound0 ok S) {k : Nat} {n : Nd} (hk : S k = some n) (hkind : n.kind = 1) : ∃ j, j < 200 ∧ up1 S (above S j k) = above S j k := by
  obtain ⟨h, h1, h2⟩ := hs.rank
  have main : ∀ (f k : Nat) (n : Nd), S k = some n → n.kind = 1 → h k ≤ f → ∃ j, j ≤ f ∧ up1 S (above S j k) = above S j k := by
    intro f
    induction f with
    | zero =>
      intro k n hk hkind hf
      refine ⟨0, Nat.le_refl _, ?_⟩
      show up1 S k = k
      unfold up1
      rw [hk]
      by_cases e : n.parent = k
      · exact e
      · have := (h2 k n hk hkind e).1; omega
    | succ f ih =>
      intro k n hk hkind hf
      by_cases e : n.parent = k
      · refine ⟨0, by omega, ?_⟩
        show up1 S k = k
        unfold up1; rw [hk]; exact e
      · obtain ⟨g1, m, g2, g3⟩ := h2 k n hk hkind e
        obtain ⟨j, a1, a2⟩ := ih n.parent m g2 g3 (by omega)
        have eu : up1 S k = n.parent := by unfold up1; rw [hk]
        refine ⟨j + 1, by omega, ?_⟩
        show up1 S (above S j (up1 S k)) = above S j (up1 S k)
        rw [eu]; exact a2
  obtain ⟨j, a1, a2⟩ := main (h k) k n hk hkind (Nat.le_refl _)
  exact ⟨j, by have := h1 k n hk; omega, a2⟩
end Go.Proofs.Ytafonmnfeibaiaa.IT
