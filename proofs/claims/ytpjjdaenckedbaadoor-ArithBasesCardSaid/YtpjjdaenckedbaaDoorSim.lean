/- Expressions: a text within brackets is read as it is by itself; levels do not change what is read. No program in sight. -/
import Derived.Test.YtpjjdaenckedbaaDoorPlain
namespace Go.Proofs.YtpjjdaenckedbaaDoor
open Go.RowKit

/-- What may stand behind a text within brackets: nothing, or the bracket. -/
def Tail (c : Bytes) : Prop := c = [] ∨ ∃ d, c = 41 :: d
theorem Tail.nil : Tail [] := .inl rfl
theorem Tail.cons (d : Bytes) : Tail (41 :: d) := .inr ⟨d, rfl⟩
theorem tail_blank {c : Bytes} (hc : Tail c) : ∀ l, blank (l ++ c) = blank l ++ c
  | [] => by
    rcases hc with rfl | ⟨d, rfl⟩
    · rfl
    · show (41 :: d).dropWhile isB = [].dropWhile isB ++ 41 :: d
      rw [List.dropWhile_cons_of_neg (by decide)]; rfl
  | x :: l => by
    show (x :: (l ++ c)).dropWhile isB = (x :: l).dropWhile isB ++ c
    by_cases h : isB x
    · rw [List.dropWhile_cons_of_pos h, List.dropWhile_cons_of_pos h]
      exact tail_blank hc l
    · rw [List.dropWhile_cons_of_neg h, List.dropWhile_cons_of_neg h]; rfl
theorem blank_blank : ∀ l, blank (blank l) = blank l
  | [] => rfl
  | x :: l => by
    by_cases h : isB x
    · have e : blank (x :: l) = blank l := List.dropWhile_cons_of_pos h
      rw [e]; exact blank_blank l
    · have e : blank (x :: l) = x :: l := List.dropWhile_cons_of_neg h
      rw [e, e]
theorem pre_app (d : Bytes) : ∀ (s l : Bytes), s.contains 41 = false → s.isPrefixOf (l ++ 41 :: d) = s.isPrefixOf l
  | [], l, _ => by cases l <;> rfl
  | a :: s, [], h => by
    simp only [List.contains_cons, Bool.or_eq_false_iff] at h
    show ((a == 41) && _) = false
    have : (a == 41) = false := by
      have := h.1
      simp only [beq_eq_false_iff_ne, ne_eq] at this ⊢
      exact fun h => this h.symm
    rw [this]; rfl
  | a :: s, b :: l, h => by
    simp only [List.contains_cons, Bool.or_eq_false_iff] at h
    show ((a == b) && s.isPrefixOf (l ++ 41 :: d)) = ((a == b) && s.isPrefixOf l)
    rw [pre_app d s l h.2]
theorem sgnIn_app (d : Bytes) (l : Bytes) (hl : l ≠ []) : ∀ ss : List Bytes, ss.all (fun s => !s.contains 41 || s == [41]) = true → sgnIn ss (l ++ 41 :: d) = sgnIn ss l
  | [], _ => rfl
  | s :: ss, h => by
    simp only [List.all_cons, Bool.and_eq_true] at h
    have e : s.isPrefixOf (l ++ 41 :: d) = s.isPrefixOf l := by
      cases h41 : s.contains 41 with
      | false => exact pre_app d s l h41
      | true =>
        have : s = [41] := by
          have := h.1
          rw [h41] at this
          simpa using this
        subst this
        cases l with
        | nil => exact absurd rfl hl
        | cons b l => rfl
    show (if s.isPrefixOf (l ++ 41 :: d) then s else _) = (if s.isPrefixOf l then s else _)
    rw [e, sgnIn_app d l hl ss h.2]
theorem sgn_41 (d : Bytes) : sgn (41 :: d) = [41] := by simp [sgn, sgnIn, signsL, List.isPrefixOf]
theorem sgn_nil : sgn [] = [] := rfl
theorem tail_sgn {c : Bytes} (hc : Tail c) (l : Bytes) : sgn (l ++ c) = sgn l ∨ (l = [] ∧ sgn l = [] ∧ sgn (l ++ c) = [41]) := by
  rcases hc with rfl | ⟨d, rfl⟩
  · rw [List.append_nil]; exact .inl rfl
  · by_cases hl : l = []
    · subst hl; exact .inr ⟨rfl, rfl, sgn_41 d⟩
    · exact .inl (sgnIn_app d l hl signsL (by decide))
/-- A word about signs that says the same of none and of the bracket. -/
theorem tail_say {α : Type} {c : Bytes} (hc : Tail c) (p : Bytes → α) (hp : p [] = p [41]) (l : Bytes) : p (sgn (l ++ c)) = p (sgn l) := by
  rcases tail_sgn hc l with h | ⟨_, h1, h2⟩
  · rw [h]
  · rw [h1, h2, hp]
theorem tail_eq {c : Bytes} (hc : Tail c) {l s : Bytes} (h : sgn l = s) (hs : s ≠ []) : sgn (l ++ c) = s := by
  rcases tail_sgn hc l with e | ⟨_, h1, _⟩
  · rw [e, h]
  · exact absurd (h.symm.trans h1) hs
theorem tail_word {c : Bytes} (hc : Tail c) : ∀ l, word (l ++ c) = word l
  | [] => by
    rcases hc with rfl | ⟨d, rfl⟩
    · rfl
    · show (41 :: d).takeWhile isW = []
      rw [List.takeWhile_cons_of_neg (by decide)]
  | x :: l => by
    show (x :: (l ++ c)).takeWhile isW = (x :: l).takeWhile isW
    by_cases h : isW x
    · rw [List.takeWhile_cons_of_pos h, List.takeWhile_cons_of_pos h]
      exact congrArg _ (tail_word hc l)
    · rw [List.takeWhile_cons_of_neg h, List.takeWhile_cons_of_neg h]
theorem word_le (l : Bytes) : (word l).length ≤ l.length := (List.takeWhile_sublist _).length_le
theorem sgnIn_le (l : Bytes) : ∀ ss : List Bytes, (sgnIn ss l).length ≤ l.length
  | [] => Nat.zero_le _
  | s :: ss => by
    show (if s.isPrefixOf l then s else sgnIn ss l).length ≤ l.length
    by_cases h : s.isPrefixOf l
    · rw [if_pos h]
      exact (List.isPrefixOf_iff_prefix.1 h).length_le
    · rw [if_neg h]; exact sgnIn_le l ss
theorem sgn_le (l : Bytes) : (sgn l).length ≤ l.length := sgnIn_le l _
theorem drop_app {k : Nat} {l c : Bytes} (h : k ≤ l.length) : (l ++ c).drop k = l.drop k ++ c := List.drop_append_of_le_length h

/-- One reader reads as another one, with more behind. -/
def Sim (c : Bytes) (f g : Bytes → Res) : Prop := ∀ l t r, f l = some (t, r) → g (l ++ c) = some (t, r ++ c)
theorem sim_close {c : Bytes} (hc : Tail c) (s : Bytes) (hs : s ≠ []) {k k' : T → Bytes → Res} {x y : Res} (hk : ∀ t, Sim c (k t) (k' t)) (hx : ∀ t r, x = some (t, r) → y = some (t, r ++ c)) :
    ∀ t r, closeR s k x = some (t, r) → closeR s k' y = some (t, r ++ c) := by
  intro t r h
  cases x with
  | none => cases h
  | some p =>
    obtain ⟨u, q⟩ := p
    rw [hx u q rfl]
    simp only [closeR] at h ⊢
    by_cases hq : sgn (blank q) = s
    · rw [if_pos hq] at h
      rw [tail_blank hc, if_pos (tail_eq hc hq hs), drop_app (by rw [← hq]; exact sgn_le _)]
      exact hk u _ _ _ h
    · rw [if_neg hq] at h; cases h
theorem sim_loop {c : Bytes} (hc : Tail c) {f g : Bytes → Res} (hf : Sim c f g) (ops : List Bytes) (h0 : ops.contains [] = false) (h1 : ops.contains [41] = false) :
    ∀ k k' n l t r, k ≤ k' → loopR f ops k n l = some (t, r) → loopR g ops k' n (l ++ c) = some (t, r ++ c)
  | 0, _, _, _, _, _, _, h => by cases h
  | k + 1, 0, _, _, _, _, hk, _ => by omega
  | k + 1, k' + 1, n, l, t, r, hk, h => by
    have hb := tail_blank hc l
    have hcon : ops.contains (sgn (blank l ++ c)) = ops.contains (sgn (blank l)) := tail_say hc _ (by rw [h0, h1]) _
    simp only [loopR, hb] at h ⊢
    rw [hcon]
    by_cases hq : ops.contains (sgn (blank l)) = true
    · rw [if_pos hq] at h ⊢
      have hs : sgn (blank l ++ c) = sgn (blank l) := by
        rcases tail_sgn hc (blank l) with e | ⟨_, e, _⟩
        · exact e
        · rw [e, h0] at hq; cases hq
      rw [hs, drop_app (sgn_le _)]
      cases hm : f ((blank l).drop (sgn (blank l)).length) with
      | none => rw [hm] at h; cases h
      | some p =>
        obtain ⟨m, q⟩ := p
        rw [hm] at h
        rw [hf _ _ _ hm]
        exact sim_loop hc hf ops h0 h1 k k' _ q t r (by omega) h
    · rw [if_neg hq] at h ⊢
      simp only [Option.some.injEq, Prod.mk.injEq] at h ⊢
      exact ⟨h.1, by rw [← h.2]⟩
theorem ops_nil : ∀ i, (opsAt i).contains [] = false
  | 0 | 1 | 2 | 3 | 4 | 5 | 6 | 7 | 8 | 9 => by decide
  | n + 10 => by simp [opsAt, rowsL]
theorem ops_41 : ∀ i, (opsAt i).contains [41] = false
  | 0 | 1 | 2 | 3 | 4 | 5 | 6 | 7 | 8 | 9 => by decide
  | n + 10 => by simp [opsAt, rowsL]
theorem sim_row {c : Bytes} (hc : Tail c) {lev lev' : Fn → Bytes → Res} (hl : ∀ F, Sim c (lev F) (lev' F)) : ∀ k, Sim c (rowR lev k) (rowR lev' k)
  | 0 => hl .one
  | k + 1 => by
    intro l t r h
    simp only [rowR] at h ⊢
    cases hm : rowR lev k l with
    | none => rw [hm] at h; cases h
    | some p =>
      obtain ⟨m, q⟩ := p
      rw [hm] at h
      rw [sim_row hc hl k _ _ _ hm]
      exact sim_loop hc (sim_row hc hl k) _ (ops_nil _) (ops_41 _) _ _ _ _ _ _ (by simp) h
theorem sim_atom {c : Bytes} (hc : Tail c) : Sim c atomR atomR := by
  intro l t r h
  simp only [atomR] at h ⊢
  rw [tail_word hc, drop_app (word_le _)]
  by_cases hq : hasLet (word l) = true
  · rw [if_pos hq] at h ⊢
    simp only [Option.some.injEq, Prod.mk.injEq] at h ⊢
    exact ⟨h.1, by rw [← h.2]⟩
  · rw [if_neg hq] at h ⊢
    cases hn : constantS (word l) with
    | none => rw [hn] at h; cases h
    | some n =>
      rw [hn] at h
      simp only [Option.map_some, Option.some.injEq, Prod.mk.injEq] at h ⊢
      exact ⟨h.1, by rw [← h.2]⟩
theorem sim_map {c : Bytes} {k : T → T} {x y : Res} (hx : ∀ t r, x = some (t, r) → y = some (t, r ++ c)) : ∀ t r, x.map (fun p => (k p.1, p.2)) = some (t, r) → y.map (fun p => (k p.1, p.2)) = some (t, r ++ c) := by
  intro t r h
  cases x with
  | none => cases h
  | some p =>
    obtain ⟨u, q⟩ := p
    rw [hx u q rfl]
    simp only [Option.map_some, Option.some.injEq, Prod.mk.injEq] at h ⊢
    exact ⟨h.1, by rw [← h.2]⟩
theorem sim_one {c : Bytes} (hc : Tail c) {lev lev' : Fn → Bytes → Res} (hl : ∀ F, Sim c (lev F) (lev' F)) : Sim c (oneR lev) (oneR lev') := by
  intro l t r h
  simp only [oneR] at h ⊢
  have hb := tail_blank hc l
  have h1 : isUn (sgn (blank l ++ c)) = isUn (sgn (blank l)) := tail_say hc _ rfl _
  have h2 : decide (sgn (blank l ++ c) = [40]) = decide (sgn (blank l) = [40]) := tail_say hc (fun s => decide (s = [40])) rfl _
  rw [hb]
  by_cases hq : isUn (sgn (blank l)) = true
  · rw [if_pos hq] at h
    rw [if_pos (h1.trans hq)]
    have hs : sgn (blank l ++ c) = sgn (blank l) := by
      rcases tail_sgn hc (blank l) with e | ⟨_, e, _⟩
      · exact e
      · rw [e] at hq; cases hq
    have hne : 1 ≤ (blank l).length := by
      have := sgn_le (blank l)
      cases hz : sgn (blank l) with
      | nil => rw [hz] at hq; cases hq
      | cons a b => rw [hz] at this; simp at this; omega
    rw [hs, drop_app hne]
    exact sim_map (k := T.un (sgn (blank l))) (hl .one _) _ _ h
  · rw [if_neg hq] at h
    rw [if_neg (by rw [h1]; exact hq)]
    by_cases hp : sgn (blank l) = [40]
    · rw [if_pos hp] at h
      rw [if_pos (tail_eq hc hp (by decide))]
      have hne : 1 ≤ (blank l).length := by
        have := sgn_le (blank l)
        rw [hp] at this; exact this
      rw [drop_app hne]
      exact sim_close hc _ (by decide) (fun t l u r h => by
        simp only [Option.some.injEq, Prod.mk.injEq] at h ⊢
        exact ⟨h.1, by rw [← h.2]⟩) (hl .sets _) _ _ h
    · rw [if_neg hp] at h
      rw [if_neg (fun e => by rw [e] at h2; exact hp (of_decide_eq_true h2.symm))]
      exact sim_atom hc _ _ _ h
theorem sim_cond {c : Bytes} (hc : Tail c) {lev lev' : Fn → Bytes → Res} (hl : ∀ F, Sim c (lev F) (lev' F)) (n : T) : Sim c (condR lev n) (condR lev' n) := by
  intro l t r h
  simp only [condR] at h ⊢
  have hb := tail_blank hc l
  have h2 : decide (sgn (blank l ++ c) = [63]) = decide (sgn (blank l) = [63]) := tail_say hc (fun s => decide (s = [63])) rfl _
  rw [hb]
  by_cases hp : sgn (blank l) = [63]
  · rw [if_pos hp] at h
    rw [if_pos (tail_eq hc hp (by decide))]
    have hne : 1 ≤ (blank l).length := by
      have := sgn_le (blank l)
      rw [hp] at this; exact this
    rw [drop_app hne]
    exact sim_close hc _ (by decide) (fun a l u r h => sim_map (k := T.cond n a) (hl .choice l) u r h) (hl .sets _) _ _ h
  · rw [if_neg hp] at h
    rw [if_neg (fun e => by rw [e] at h2; exact hp (of_decide_eq_true h2.symm))]
    simp only [Option.some.injEq, Prod.mk.injEq] at h ⊢
    exact ⟨h.1, by rw [← h.2]⟩
theorem sim_choice {c : Bytes} (hc : Tail c) {lev lev' : Fn → Bytes → Res} (hl : ∀ F, Sim c (lev F) (lev' F)) : Sim c (choiceR lev) (choiceR lev') := by
  intro l t r h
  simp only [choiceR] at h ⊢
  cases hm : rowR lev 10 l with
  | none => rw [hm] at h; cases h
  | some p =>
    obtain ⟨m, q⟩ := p
    rw [hm] at h
    rw [sim_row hc hl 10 _ _ _ hm]
    exact sim_cond hc hl m _ _ _ h
theorem sim_sets {c : Bytes} (hc : Tail c) {lev lev' : Fn → Bytes → Res} (hl : ∀ F, Sim c (lev F) (lev' F)) : Sim c (setsR lev) (setsR lev') := by
  intro l t r h
  simp only [setsR] at h ⊢
  rw [tail_blank hc l, tail_word hc]
  by_cases hq : hasLet (word (blank l)) = true
  · rw [if_pos hq] at h ⊢
    rw [drop_app (word_le _), tail_blank hc]
    have h1 : isSet (sgn (blank ((blank l).drop (word (blank l)).length) ++ c)) = isSet (sgn (blank ((blank l).drop (word (blank l)).length))) := tail_say hc _ rfl _
    generalize blank ((blank l).drop (word (blank l)).length) = m at *
    by_cases hs : isSet (sgn m) = true
    · rw [if_pos hs] at h
      rw [if_pos (h1.trans hs)]
      have he : sgn (m ++ c) = sgn m := by
        rcases tail_sgn hc m with e | ⟨_, e, _⟩
        · exact e
        · rw [e] at hs; cases hs
      rw [he, drop_app (sgn_le _)]
      exact sim_map (k := T.set (sgn m) (word (blank l))) (hl .sets _) _ _ h
    · rw [if_neg hs] at h
      rw [if_neg (by rw [h1]; exact hs)]
      exact hl .choice _ _ _ h
  · rw [if_neg hq] at h ⊢
    exact hl .choice _ _ _ h
theorem sim_step {c : Bytes} (hc : Tail c) {lev lev' : Fn → Bytes → Res} (hl : ∀ F, Sim c (lev F) (lev' F)) : ∀ F, Sim c (stepR lev F) (stepR lev' F)
  | .sets => sim_sets hc hl
  | .choice => sim_choice hc hl
  | .one => sim_one hc hl
theorem sim_PL {c : Bytes} (hc : Tail c) : ∀ R R', R ≤ R' → ∀ F, Sim c (PL R F) (PL R' F)
  | 0, _, _, _ => fun _ _ _ h => by cases h
  | R + 1, 0, h, _ => by omega
  | R + 1, R' + 1, h, F => sim_step hc (fun F => sim_PL hc R R' (by omega) F) F
/-- However deep it stands: the same, or nothing. -/
theorem PL_same {R R' : Nat} {F : Fn} {l c t r u q} (hc : Tail c) (h : PL R F l = some (t, r)) (h' : PL R' F (l ++ c) = some (u, q)) : u = t ∧ q = r ++ c := by
  have h1 := sim_PL hc R (R + R') (by omega) F _ _ _ h
  have h2 := sim_PL Tail.nil R' (R + R') (by omega) F _ _ _ h'
  rw [List.append_nil, h1] at h2
  simp only [Option.some.injEq, Prod.mk.injEq, List.append_nil] at h2
  exact ⟨h2.1.symm, h2.2.symm⟩
theorem row_blank {lev : Fn → Bytes → Res} (h : ∀ l, lev .one (blank l) = lev .one l) : ∀ k l, rowR lev k (blank l) = rowR lev k l
  | 0, l => h l
  | k + 1, l => by simp only [rowR, row_blank h k l]
theorem PL_blank : ∀ R F l, PL R F (blank l) = PL R F l
  | 0, _, _ => rfl
  | R + 1, .one, l => by show oneR _ (blank l) = oneR _ l; simp only [oneR, blank_blank]
  | R + 1, .choice, l => by show choiceR _ (blank l) = choiceR _ l; simp only [choiceR, row_blank (fun l => PL_blank R .one l)]
  | R + 1, .sets, l => by show setsR _ (blank l) = setsR _ l; simp only [setsR, blank_blank, PL_blank R .choice]
end Go.Proofs.YtpjjdaenckedbaaDoor
