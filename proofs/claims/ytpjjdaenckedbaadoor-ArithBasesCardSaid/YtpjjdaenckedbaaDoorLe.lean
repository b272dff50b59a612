/- Expressions: what is left of a text is no longer than it; what is read is a whole tree. No program in sight. -/
import Derived.Test.YtpjjdaenckedbaaDoorTyp
namespace Go.Proofs.YtpjjdaenckedbaaDoor
open Go.RowKit

theorem bl_le (s : Bytes) : (blank s).length ≤ s.length := (List.dropWhile_sublist _).length_le
/-- A tree that a text may be. -/
def WF : T → Prop
  | .num n => IsI n
  | .name x => x ≠ [] ∧ x.length ≤ 1000
  | .set s x k => isSet s = true ∧ s.length ≤ 1000 ∧ x ≠ [] ∧ x.length ≤ 1000 ∧ WF k
  | .cond a b c => WF a ∧ WF b ∧ WF c
  | .two s a b => s ≠ [] ∧ s ≠ [63] ∧ WF a ∧ WF b
  | .un s a => isUn s = true ∧ WF a
/-- How many names are set. -/
def cnt : T → Nat
  | .num _ => 0
  | .name _ => 0
  | .set _ _ k => cnt k + 1
  | .cond a b c => cnt a + cnt b + cnt c
  | .two _ a b => cnt a + cnt b
  | .un _ a => cnt a
def Ok (f : Bytes → Res) : Prop := ∀ l t r, l.length ≤ 1000 → f l = some (t, r) → r.length + cnt t ≤ l.length ∧ WF t
theorem ok_close {s : Bytes} {k : T → Bytes → Res} {x : Res} {n : Nat} (hx : ∀ t r, x = some (t, r) → r.length + cnt t ≤ n ∧ WF t) (hk : ∀ t, WF t → ∀ l u r, l.length + cnt t ≤ n → k t l = some (u, r) → r.length + cnt u ≤ n ∧ WF u) :
    ∀ t r, closeR s k x = some (t, r) → r.length + cnt t ≤ n ∧ WF t := by
  intro t r h
  cases x with
  | none => cases h
  | some p =>
    obtain ⟨u, q⟩ := p
    obtain ⟨h1, h2⟩ := hx u q rfl
    simp only [closeR] at h
    by_cases hq : sgn (blank q) = s
    · rw [if_pos hq] at h
      have := bl_le q
      exact hk u h2 _ _ _ (by rw [List.length_drop]; omega) h
    · rw [if_neg hq] at h; cases h
theorem ok_map {k : T → T} {x : Res} {n c : Nat} (hx : ∀ t r, x = some (t, r) → r.length + cnt t ≤ n ∧ WF t) (hk : ∀ t, WF t → WF (k t) ∧ cnt (k t) ≤ cnt t + c) : ∀ t r, x.map (fun p => (k p.1, p.2)) = some (t, r) → r.length + cnt t ≤ n + c ∧ WF t := by
  intro t r h
  cases x with
  | none => cases h
  | some p =>
    obtain ⟨u, q⟩ := p
    obtain ⟨h1, h2⟩ := hx u q rfl
    simp only [Option.map_some, Option.some.injEq, Prod.mk.injEq] at h
    obtain ⟨rfl, rfl⟩ := h
    have := hk u h2
    exact ⟨by omega, this.1⟩
theorem ops_63 : ∀ i, (opsAt i).contains [63] = false
  | 0 | 1 | 2 | 3 | 4 | 5 | 6 | 7 | 8 | 9 => by decide
  | n + 10 => by simp [opsAt, rowsL]
theorem ok_loop {f : Bytes → Res} (hf : Ok f) (ops : List Bytes) (h0 : ops.contains [] = false) (h1 : ops.contains [63] = false) (N : Nat) (hN : N ≤ 1000) :
    ∀ k n l t r, WF n → l.length + cnt n ≤ N → loopR f ops k n l = some (t, r) → r.length + cnt t ≤ N ∧ WF t
  | 0, _, _, _, _, _, _, h => by cases h
  | k + 1, n, l, t, r, hn, hl, h => by
    have hb := bl_le l
    simp only [loopR] at h
    by_cases hq : ops.contains (sgn (blank l)) = true
    · rw [if_pos hq] at h
      have hne : sgn (blank l) ≠ [] := fun e => by rw [e, h0] at hq; cases hq
      have hne2 : sgn (blank l) ≠ [63] := fun e => by rw [e, h1] at hq; cases hq
      cases hm : f ((blank l).drop (sgn (blank l)).length) with
      | none => rw [hm] at h; cases h
      | some p =>
        obtain ⟨m, q⟩ := p
        rw [hm] at h
        have hd : ((blank l).drop (sgn (blank l)).length).length ≤ l.length := by rw [List.length_drop]; omega
        obtain ⟨hq1, hq2⟩ := hf _ _ _ (by omega) hm
        exact ok_loop hf ops h0 h1 N hN k (.two (sgn (blank l)) n m) q t r (show WF (.two _ _ _) from ⟨hne, hne2, hn, hq2⟩) (by show _ + (cnt n + cnt m) ≤ N; omega) h
    · rw [if_neg hq] at h
      simp only [Option.some.injEq, Prod.mk.injEq] at h
      obtain ⟨rfl, rfl⟩ := h
      exact ⟨by omega, hn⟩
theorem ok_row {lev : Fn → Bytes → Res} (hl : ∀ F, Ok (lev F)) : ∀ k, Ok (rowR lev k)
  | 0 => hl .one
  | k + 1 => by
    intro l t r hlen h
    simp only [rowR] at h
    cases hm : rowR lev k l with
    | none => rw [hm] at h; cases h
    | some p =>
      obtain ⟨m, q⟩ := p
      rw [hm] at h
      obtain ⟨h1, h2⟩ := ok_row hl k _ _ _ hlen hm
      exact ok_loop (ok_row hl k) _ (ops_nil _) (ops_63 _) _ hlen _ _ _ _ _ h2 h1 h
theorem const_is {s : Bytes} {n : Int} (h : constantS s = some n) : IsI n := by
  unfold constantS at h
  by_cases hq : (constB s).2 = []
  · rw [if_pos hq] at h; cases h
  · rw [if_neg hq] at h
    cases hf : foldN (constB s).1 (constB s).2 0 with
    | none => rw [hf] at h; cases h
    | some m =>
      rw [hf] at h
      obtain rfl := Option.some.inj h
      exact w64_is m
theorem ok_atom : Ok atomR := by
  intro l t r hlen h
  simp only [atomR] at h
  have hw := word_le l
  by_cases hq : hasLet (word l) = true
  · rw [if_pos hq] at h
    simp only [Option.some.injEq, Prod.mk.injEq] at h
    obtain ⟨rfl, rfl⟩ := h
    exact ⟨by rw [List.length_drop]; show _ + 0 ≤ _; omega, (fun e => by rw [e] at hq; cases hq), by omega⟩
  · rw [if_neg hq] at h
    cases hn : constantS (word l) with
    | none => rw [hn] at h; cases h
    | some n =>
      rw [hn] at h
      simp only [Option.map_some, Option.some.injEq, Prod.mk.injEq] at h
      obtain ⟨rfl, rfl⟩ := h
      exact ⟨by rw [List.length_drop]; show _ + 0 ≤ _; omega, const_is hn⟩
theorem ok_at {f : Bytes → Res} (hf : Ok f) {l : Bytes} {n : Nat} (hl : l.length ≤ n) (hn : n ≤ 1000) : ∀ t r, f l = some (t, r) → r.length + cnt t ≤ n ∧ WF t := fun t r h => by
  have := hf l t r (by omega) h
  exact ⟨by omega, this.2⟩
theorem ok_one {lev : Fn → Bytes → Res} (hl : ∀ F, Ok (lev F)) : Ok (oneR lev) := by
  intro l t r hlen h
  simp only [oneR] at h
  have hb := bl_le l
  have hd : ((blank l).drop 1).length ≤ l.length := by rw [List.length_drop]; omega
  by_cases hq : isUn (sgn (blank l)) = true
  · rw [if_pos hq] at h
    exact ok_map (k := T.un (sgn (blank l))) (c := 0) (ok_at (hl .one) hd hlen) (fun t ht => ⟨⟨hq, ht⟩, Nat.le_refl _⟩) _ _ h
  · rw [if_neg hq] at h
    by_cases hp : sgn (blank l) = [40]
    · rw [if_pos hp] at h
      exact ok_close (n := l.length) (ok_at (hl .sets) hd hlen) (fun t ht l u r hn h => by
        simp only [Option.some.injEq, Prod.mk.injEq] at h
        obtain ⟨rfl, rfl⟩ := h
        exact ⟨hn, ht⟩) _ _ h
    · rw [if_neg hp] at h
      have := ok_atom _ _ _ (by omega) h
      exact ⟨by omega, this.2⟩
theorem ok_choice {lev : Fn → Bytes → Res} (hl : ∀ F, Ok (lev F)) : Ok (choiceR lev) := by
  intro l t r hlen h
  simp only [choiceR] at h
  cases hm : rowR lev 10 l with
  | none => rw [hm] at h; cases h
  | some p =>
    obtain ⟨m, q⟩ := p
    rw [hm] at h
    obtain ⟨h1, h2⟩ := ok_row hl 10 _ _ _ hlen hm
    simp only [Option.bind_some, condR] at h
    have hb := bl_le q
    by_cases hp : sgn (blank q) = [63]
    · rw [if_pos hp] at h
      have hd : ((blank q).drop 1).length + cnt m ≤ l.length := by rw [List.length_drop]; omega
      have hs : ∀ t r, lev .sets ((blank q).drop 1) = some (t, r) → r.length + cnt t ≤ l.length - cnt m ∧ WF t := ok_at (hl .sets) (by omega) (by omega)
      have := ok_close (n := l.length - cnt m) (s := [58]) (k := fun a r => (lev .choice r).map fun p => (.cond m a p.1, p.2)) hs
      cases hx : lev .sets ((blank q).drop 1) with
      | none => rw [hx] at h; cases h
      | some p2 =>
        obtain ⟨a, q2⟩ := p2
        rw [hx] at h
        obtain ⟨g1, g2⟩ := hs a q2 hx
        simp only [closeR] at h
        by_cases hq : sgn (blank q2) = [58]
        · rw [if_pos hq] at h
          have hb2 := bl_le q2
          have hd2 : ((blank q2).drop [58].length).length ≤ l.length - cnt m - cnt a := by rw [List.length_drop]; omega
          have := ok_map (k := T.cond m a) (n := l.length - cnt m - cnt a) (c := cnt m + cnt a) (ok_at (hl .choice) hd2 (by omega)) (fun u hu => ⟨⟨h2, g2, hu⟩, by show cnt m + cnt a + cnt u ≤ _; omega⟩) _ _ h
          exact ⟨by omega, this.2⟩
        · rw [if_neg hq] at h; cases h
    · rw [if_neg hp] at h
      simp only [Option.some.injEq, Prod.mk.injEq] at h
      obtain ⟨rfl, rfl⟩ := h
      exact ⟨by omega, h2⟩
theorem ok_sets {lev : Fn → Bytes → Res} (hl : ∀ F, Ok (lev F)) : Ok (setsR lev) := by
  intro l t r hlen h
  simp only [setsR] at h
  have hb := bl_le l
  have hw := word_le (blank l)
  by_cases hq : hasLet (word (blank l)) = true
  · rw [if_pos hq] at h
    have h3 : ((blank l).drop (word (blank l)).length).length ≤ l.length := by rw [List.length_drop]; omega
    have h4 := bl_le ((blank l).drop (word (blank l)).length)
    generalize blank ((blank l).drop (word (blank l)).length) = m at *
    by_cases hs : isSet (sgn m) = true
    · rw [if_pos hs] at h
      have h5 := sgn_le m
      have h6 : 1 ≤ (sgn m).length := by
        cases hz : sgn m with
        | nil => rw [hz] at hs; cases hs
        | cons a b => simp
      have hd : (m.drop (sgn m).length).length ≤ l.length - 1 := by rw [List.length_drop]; omega
      have := ok_map (k := T.set (sgn m) (word (blank l))) (c := 1) (ok_at (hl .sets) hd (by omega)) (fun u hu => ⟨⟨hs, by omega, (fun e => by rw [e] at hq; cases hq), by omega, hu⟩, Nat.le_refl _⟩) _ _ h
      exact ⟨by omega, this.2⟩
    · rw [if_neg hs] at h
      exact hl .choice _ _ _ hlen h
  · rw [if_neg hq] at h
    have := hl .choice _ _ _ (by omega) h
    exact ⟨by omega, this.2⟩
theorem ok_PL : ∀ R F, Ok (PL R F)
  | 0, _ => fun _ _ _ _ h => by cases h
  | R + 1, .sets => ok_sets (ok_PL R)
  | R + 1, .choice => ok_choice (ok_PL R)
  | R + 1, .one => ok_one (ok_PL R)
end Go.Proofs.YtpjjdaenckedbaaDoor
