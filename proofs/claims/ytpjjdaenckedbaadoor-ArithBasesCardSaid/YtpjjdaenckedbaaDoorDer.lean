/- Expressions: how rows are read, step by step; what stands behind a sign that decides. No program in sight. -/
import Derived.Test.YtpjjdaenckedbaaDoorSim
namespace Go.Proofs.YtpjjdaenckedbaaDoor
open Go.RowKit

/-- What a row's loop makes. -/
def RowT (lev : Fn → Bytes → Res) (k : Nat) (n : T) (l : Bytes) (t : T) (r : Bytes) : Prop := ∃ f, f ≤ l.length + 1 ∧ loopR (rowR lev k) (opsAt (9 - k)) f n l = some (t, r)
theorem loop_end {lev : Fn → Bytes → Res} {k : Nat} {n : T} {l : Bytes} (h : (opsAt (9 - k)).contains (sgn (blank l)) = false) : RowT lev k n l n (blank l) :=
  ⟨1, by omega, by simp only [loopR]; rw [h]; rfl⟩
theorem loop_step {lev : Fn → Bytes → Res} {k : Nat} {n m t : T} {l q r s : Bytes} (hs : sgn (blank l) = s) (hc : (opsAt (9 - k)).contains s = true) (hm : rowR lev k ((blank l).drop s.length) = some (m, q)) (hq : q.length < l.length) (h : RowT lev k (.two s n m) q t r) : RowT lev k n l t r := by
  obtain ⟨f, hf, h⟩ := h
  refine ⟨f + 1, by omega, ?_⟩
  simp only [loopR]
  rw [hs, if_pos hc, hm]
  exact h
theorem sim_self (f : Bytes → Res) : Sim [] f f := fun l t r h => by rw [List.append_nil, List.append_nil]; exact h
theorem row_of {lev : Fn → Bytes → Res} {k : Nat} {n t : T} {l q r : Bytes} (h : rowR lev k l = some (n, q)) (hl : RowT lev k n q t r) : rowR lev (k + 1) l = some (t, r) := by
  obtain ⟨f, hf, hl⟩ := hl
  have := sim_loop Tail.nil (sim_self (rowR lev k)) _ (ops_nil _) (ops_41 _) _ _ _ _ _ _ hf hl
  rw [List.append_nil, List.append_nil] at this
  simp only [rowR]
  rw [h]
  exact this
theorem row_up {lev : Fn → Bytes → Res} {j : Nat} {t : T} {l r : Bytes} (h : rowR lev j l = some (t, r)) : ∀ d, (∀ i, j ≤ i → i < j + d + 1 → (opsAt (9 - i)).contains (sgn (blank r)) = false) → rowR lev (j + d + 1) l = some (t, blank r)
  | 0, hc => row_of h (loop_end (hc j (Nat.le_refl _) (by omega)))
  | d + 1, hc => by
    have h1 := row_up h d (fun i h1 h2 => hc i h1 (by omega))
    have h2 := row_of h1 (loop_end (by rw [blank_blank]; exact hc (j + d + 1) (by omega) (by omega)))
    rw [blank_blank] at h2
    exact h2
theorem row_none {lev : Fn → Bytes → Res} {j : Nat} {l : Bytes} (h : rowR lev j l = none) : ∀ d, rowR lev (j + d) l = none
  | 0 => h
  | d + 1 => by
    have e : j + (d + 1) = (j + d) + 1 := by omega
    rw [e]
    simp only [rowR]
    rw [row_none h d]
theorem row_loop_none {lev : Fn → Bytes → Res} {k : Nat} {n : T} {l q s : Bytes} (h : rowR lev k l = some (n, q)) (hs : sgn (blank q) = s) (hc : (opsAt (9 - k)).contains s = true) (hm : rowR lev k ((blank q).drop s.length) = none) : rowR lev (k + 1) l = none := by
  simp only [rowR]
  rw [h]
  simp only [loopR]
  rw [hs, if_pos hc, hm]
theorem PL_one (R : Nat) (l : Bytes) : PL (R + 1) .one l = oneR (PL R) l := rfl
theorem PL_choice (R : Nat) (l : Bytes) : PL (R + 1) .choice l = (rowR (PL R) 10 l).bind fun p => condR (PL R) p.1 p.2 := rfl
theorem PL_sets {R : Nat} {l : Bytes} (h : hasLet (word (blank l)) = false) : PL (R + 1) .sets l = PL R .choice (blank l) := by
  show setsR (PL R) l = _
  simp only [setsR]
  rw [if_neg (by rw [h]; decide)]
theorem sets_row {R : Nat} {l : Bytes} (h : hasLet (word (blank l)) = false) : PL (R + 2) .sets l = (rowR (PL R) 10 (blank l)).bind fun p => condR (PL R) p.1 p.2 :=
  (PL_sets h).trans (PL_choice R _)
theorem one_atom {R : Nat} {l : Bytes} (h : sgn (blank l) = []) : PL (R + 1) .one l = atomR (blank l) := by
  rw [PL_one]
  simp only [oneR]
  rw [h, if_neg (by decide), if_neg (by decide)]
theorem PL_41 : ∀ R F, PL R F [41] = none
  | 0, _ => rfl
  | R + 1, .one => by
    rw [PL_one]
    rfl
  | R + 1, .choice => by
    rw [PL_choice]
    have := row_none (lev := PL R) (j := 0) (l := [41]) (PL_41 R .one) 10
    rw [this]; rfl
  | R + 1, .sets => by
    rw [PL_sets rfl]
    exact PL_41 R .choice
theorem one_paren {R : Nat} {l X : Bytes} (h : blank l = 40 :: X) : PL (R + 1) .one l = closeR [41] (fun t r => some (t, r)) (PL R .sets X) := by
  rw [PL_one]
  have e : sgn (40 :: X) = [40] := by simp [sgn, sgnIn, signsL, List.isPrefixOf]
  simp only [oneR]
  rw [h, e, if_neg (by decide), if_pos rfl]; rfl
theorem cond_none {lev : Fn → Bytes → Res} {n : T} {l : Bytes} (h : decide (sgn (blank l) = [63]) = false) : condR lev n l = some (n, blank l) := by
  simp only [condR]
  rw [if_neg (of_decide_eq_false h)]
/-- A text within brackets, which is one by itself. -/
theorem paren_is {s l : Bytes} {t : T} {r : Bytes} (hS : PL 25 .sets (blank s) = some (t, r)) (hr : blank r = []) (R : Nat) (hl : blank l = 40 :: (s ++ [41])) : PL (R + 1) .one l = none ∨ PL (R + 1) .one l = some (t, []) := by
  rw [one_paren hl]
  cases hx : PL R .sets (s ++ [41]) with
  | none => exact .inl rfl
  | some p =>
    obtain ⟨u, q⟩ := p
    rw [← PL_blank, tail_blank (Tail.cons [])] at hx
    obtain ⟨rfl, rfl⟩ := PL_same (Tail.cons []) hS hx
    right
    simp only [closeR]
    rw [tail_blank (Tail.cons []), hr]
    rfl
theorem row_paren {s l : Bytes} {t : T} {r : Bytes} (hS : PL 25 .sets (blank s) = some (t, r)) (hr : blank r = []) (R : Nat) (hl : blank l = 40 :: (s ++ [41])) : ∀ k, rowR (PL (R + 1)) k l = none ∨ rowR (PL (R + 1)) k l = some (t, [])
  | 0 => paren_is hS hr R hl
  | k + 1 => by
    rcases paren_is hS hr R hl with h | h
    · left
      have := row_none (lev := PL (R + 1)) (j := 0) h (k + 1)
      rw [Nat.zero_add] at this; exact this
    · right
      have := row_up (lev := PL (R + 1)) (j := 0) h k (fun i _ _ => ops_nil _)
      rw [Nat.zero_add] at this; exact this

def t1S (s : Bytes) : Bytes := [48,32,38,38,32,40] ++ (s ++ [41])
def t2S (s : Bytes) : Bytes := [55,32,124,124,32,40] ++ (s ++ [41])
def t3S (s : Bytes) : Bytes := [49,32,63,32,53,32,58,32,40] ++ (s ++ [41])
def t0S (s : Bytes) : Bytes := 40 :: (s ++ [41])
theorem blank_par (X : Bytes) : blank (32 :: 40 :: X) = 40 :: X := by simp [blank, isB]
theorem read_0 {s : Bytes} (h : blank s = []) : readS (t0S s) = none := by
  have h1 : ∀ R, PL (R + 1) .one (t0S s) = none := fun R => by
    rw [one_paren (X := s ++ [41]) rfl, ← PL_blank, tail_blank (Tail.cons []), h]
    show closeR [41] _ (PL R .sets [41]) = none
    rw [PL_41]; rfl
  have h4 : PL 25 .sets (t0S s) = none := by
    rw [sets_row (R := 23) (l := t0S s) (by rfl)]
    have := row_none (lev := PL 23) (j := 0) (l := blank (t0S s)) (h1 22) 10
    rw [this]; rfl
  unfold readS
  rw [show blank (t0S s) = t0S s from rfl, h4]
theorem read_1 {s : Bytes} {t t0 : T} {r : Bytes} (hS : PL 25 .sets (blank s) = some (t, r)) (hr : blank r = []) (h : readS (t1S s) = some t0) : t0 = .two [38,38] (.num 0) t := by
  have e : sgn (blank ([32,38,38,32,40] ++ (s ++ [41]))) = [38,38] := by simp [sgn, sgnIn, signsL, List.isPrefixOf, blank, isB]
  have hs : sgn (blank (blank ([32,38,38,32,40] ++ (s ++ [41])))) = [38,38] := by rw [blank_blank]; exact e
  have h1 : rowR (PL 23) 0 (t1S s) = some (.num 0, [32,38,38,32,40] ++ (s ++ [41])) :=
    (one_atom (R := 22) (l := t1S s) (by simp [t1S, sgn, sgnIn, signsL, List.isPrefixOf, blank, isB])).trans rfl
  have h2 : rowR (PL 23) 8 (t1S s) = some (.num 0, blank ([32,38,38,32,40] ++ (s ++ [41]))) := row_up h1 7 (fun i _ hi => by
    rw [e]
    obtain rfl | rfl | rfl | rfl | rfl | rfl | rfl | rfl : i = 0 ∨ i = 1 ∨ i = 2 ∨ i = 3 ∨ i = 4 ∨ i = 5 ∨ i = 6 ∨ i = 7 := by omega
    all_goals decide)
  have h0 : PL 25 .sets (t1S s) = (rowR (PL 23) 10 (t1S s)).bind fun p => condR (PL 23) p.1 p.2 := sets_row (R := 23) (l := t1S s) (by rfl)
  unfold readS at h
  rw [show blank (t1S s) = t1S s from rfl, h0] at h
  have hpar : rowR (PL 23) 8 (32 :: 40 :: (s ++ [41])) = none ∨ rowR (PL 23) 8 (32 :: 40 :: (s ++ [41])) = some (t, []) := row_paren hS hr 22 (blank_par (s ++ [41])) 8
  rcases hpar with h3 | h3
  · have h4 : rowR (PL 23) 10 (t1S s) = none := row_none (row_loop_none h2 hs (by decide) h3) 1
    rw [h4] at h
    cases h
  · have h4 : rowR (PL 23) 10 (t1S s) = some (.two [38,38] (.num 0) t, []) := row_up (row_of h2 (loop_step hs (by decide) h3 (by simp [blank, isB]) (loop_end (ops_nil _)))) 0 (fun _ _ _ => ops_nil _)
    rw [h4] at h
    simp only [Option.bind_some] at h
    rw [cond_none rfl] at h
    exact (Option.some.inj h).symm
theorem read_2 {s : Bytes} {t t0 : T} {r : Bytes} (hS : PL 25 .sets (blank s) = some (t, r)) (hr : blank r = []) (h : readS (t2S s) = some t0) : t0 = .two [124,124] (.num 7) t := by
  have e : sgn (blank ([32,124,124,32,40] ++ (s ++ [41]))) = [124,124] := by simp [sgn, sgnIn, signsL, List.isPrefixOf, blank, isB]
  have hs : sgn (blank (blank ([32,124,124,32,40] ++ (s ++ [41])))) = [124,124] := by rw [blank_blank]; exact e
  have h1 : rowR (PL 23) 0 (t2S s) = some (.num 7, [32,124,124,32,40] ++ (s ++ [41])) :=
    (one_atom (R := 22) (l := t2S s) (by simp [t2S, sgn, sgnIn, signsL, List.isPrefixOf, blank, isB])).trans rfl
  have h2 : rowR (PL 23) 9 (t2S s) = some (.num 7, blank ([32,124,124,32,40] ++ (s ++ [41]))) := row_up h1 8 (fun i _ hi => by
    rw [e]
    obtain rfl | rfl | rfl | rfl | rfl | rfl | rfl | rfl | rfl : i = 0 ∨ i = 1 ∨ i = 2 ∨ i = 3 ∨ i = 4 ∨ i = 5 ∨ i = 6 ∨ i = 7 ∨ i = 8 := by omega
    all_goals decide)
  have h0 : PL 25 .sets (t2S s) = (rowR (PL 23) 10 (t2S s)).bind fun p => condR (PL 23) p.1 p.2 := sets_row (R := 23) (l := t2S s) (by rfl)
  unfold readS at h
  rw [show blank (t2S s) = t2S s from rfl, h0] at h
  have hpar : rowR (PL 23) 9 (32 :: 40 :: (s ++ [41])) = none ∨ rowR (PL 23) 9 (32 :: 40 :: (s ++ [41])) = some (t, []) := row_paren hS hr 22 (blank_par (s ++ [41])) 9
  rcases hpar with h3 | h3
  · have h4 : rowR (PL 23) 10 (t2S s) = none := row_loop_none h2 hs (by decide) h3
    rw [h4] at h
    cases h
  · have h4 : rowR (PL 23) 10 (t2S s) = some (.two [124,124] (.num 7) t, []) := row_of h2 (loop_step hs (by decide) h3 (by simp [blank, isB]) (loop_end (ops_nil _)))
    rw [h4] at h
    simp only [Option.bind_some] at h
    rw [cond_none rfl] at h
    exact (Option.some.inj h).symm
theorem ops_ends (s : Bytes) (h : s = [63] ∨ s = [58] ∨ s = [41] ∨ s = []) (i : Nat) (hi : i < 10) : (opsAt (9 - i)).contains s = false := by
  rcases h with rfl | rfl | rfl | rfl
  all_goals
    obtain rfl | rfl | rfl | rfl | rfl | rfl | rfl | rfl | rfl | rfl : i = 0 ∨ i = 1 ∨ i = 2 ∨ i = 3 ∨ i = 4 ∨ i = 5 ∨ i = 6 ∨ i = 7 ∨ i = 8 ∨ i = 9 := by omega
    all_goals decide
theorem read_3 {s : Bytes} {t t0 : T} {r : Bytes} (hS : PL 25 .sets (blank s) = some (t, r)) (hr : blank r = []) (h : readS (t3S s) = some t0) : t0 = .cond (.num 1) (.num 5) t := by
  have e1 : sgn (blank ([32,63,32,53,32,58,32,40] ++ (s ++ [41]))) = [63] := by simp [sgn, sgnIn, signsL, List.isPrefixOf, blank, isB]
  have e2 : sgn (blank ([32,58,32,40] ++ (s ++ [41]))) = [58] := by simp [sgn, sgnIn, signsL, List.isPrefixOf, blank, isB]
  have h1 : rowR (PL 23) 0 (t3S s) = some (.num 1, [32,63,32,53,32,58,32,40] ++ (s ++ [41])) :=
    (one_atom (R := 22) (l := t3S s) (by simp [t3S, sgn, sgnIn, signsL, List.isPrefixOf, blank, isB])).trans rfl
  have h2 := row_up h1 9 (fun i _ hi => ops_ends _ (.inl e1) i hi)
  have g1 : rowR (PL 21) 0 ([53,32,58,32,40] ++ (s ++ [41])) = some (.num 5, [32,58,32,40] ++ (s ++ [41])) :=
    (one_atom (R := 20) (l := [53,32,58,32,40] ++ (s ++ [41])) (by simp [sgn, sgnIn, signsL, List.isPrefixOf, blank, isB])).trans rfl
  have g2 := row_up g1 9 (fun i _ hi => ops_ends _ (.inr (.inl e2)) i hi)
  have g3 : PL 23 .sets ([32,53,32,58,32,40] ++ (s ++ [41])) = some (.num 5, [58,32,40] ++ (s ++ [41])) := by
    rw [sets_row (R := 21) (l := [32,53,32,58,32,40] ++ (s ++ [41])) (by rfl), show blank ([32,53,32,58,32,40] ++ (s ++ [41])) = [53,32,58,32,40] ++ (s ++ [41]) from rfl, g2]
    simp only [Option.bind_some]
    rw [cond_none (by rw [blank_blank, e2]; decide)]
    rfl
  have h5 : PL 25 .sets (t3S s) = (PL 23 .choice (32 :: 40 :: (s ++ [41]))).map fun p => (.cond (.num 1) (.num 5) p.1, p.2) := by
    rw [sets_row (R := 23) (l := t3S s) (by rfl), show blank (t3S s) = t3S s from rfl, h2]
    simp only [Option.bind_some, condR]
    rw [blank_blank, if_pos e1, show (blank ([32,63,32,53,32,58,32,40] ++ (s ++ [41]))).drop 1 = [32,53,32,58,32,40] ++ (s ++ [41]) from rfl, g3]
    simp only [closeR]
    rw [if_pos (by simp [sgn, sgnIn, signsL, List.isPrefixOf, blank, isB])]
    rfl
  unfold readS at h
  rw [show blank (t3S s) = t3S s from rfl, h5, PL_choice] at h
  have hpar := row_paren hS hr 21 (blank_par (s ++ [41])) 10
  rcases hpar with h3 | h3
  · rw [h3] at h
    cases h
  · rw [h3] at h
    simp only [Option.bind_some] at h
    rw [cond_none rfl] at h
    exact (Option.some.inj h).symm
theorem valueS_17 {s : Bytes} {l : List VarS} (h : (valueS s l).2.2 ≠ 17) : s.length ≤ 256 ∧ (blank s ≠ [] → ∃ t, readS s = some t) := by
  unfold valueS at h
  by_cases h1 : 256 < s.length
  · rw [if_pos h1] at h; exact absurd rfl h
  · rw [if_neg h1] at h
    refine ⟨by omega, fun h2 => ?_⟩
    rw [if_neg h2] at h
    cases hr : readS s with
    | none => rw [hr] at h; exact absurd rfl h
    | some t => exact ⟨t, rfl⟩
theorem valueS_of {s : Bytes} {l : List VarS} {t : T} {v : Int} {st : List VarS} (h1 : s.length ≤ 256) (h2 : blank s ≠ []) (h3 : readS s = some t) (h4 : ev l t [] = .ok (v, st)) : valueS s l = (v, st, 0) := by
  unfold valueS
  rw [if_neg (by omega), if_neg h2, h3]
  dsimp only
  rw [h4]
theorem skips {s : Bytes} (h0 : (valueS s []).2.2 ≠ 17) (hb : (valueS (t0S s) []).2.2 ≠ 17) (h1 : (valueS (t1S s) []).2.2 ≠ 17) (h2 : (valueS (t2S s) []).2.2 ≠ 17) (h3 : (valueS (t3S s) []).2.2 ≠ 17) :
    valueS (t1S s) [] = (0, [], 0) ∧ valueS (t2S s) [] = (1, [], 0) ∧ valueS (t3S s) [] = (5, [], 0) := by
  obtain ⟨_, h0⟩ := valueS_17 h0
  obtain ⟨_, hb⟩ := valueS_17 hb
  obtain ⟨l1, h1⟩ := valueS_17 h1
  obtain ⟨l2, h2⟩ := valueS_17 h2
  obtain ⟨l3, h3⟩ := valueS_17 h3
  obtain ⟨t1, h1⟩ := h1 (fun e => by cases e)
  obtain ⟨t2, h2⟩ := h2 (fun e => by cases e)
  obtain ⟨t3, h3⟩ := h3 (fun e => by cases e)
  have hbl : blank s ≠ [] := fun e => by
    obtain ⟨u, hu⟩ := hb (fun e => by cases e)
    rw [read_0 e] at hu; cases hu
  obtain ⟨t, ht⟩ := h0 hbl
  have hS : ∃ r, PL 25 .sets (blank s) = some (t, r) ∧ blank r = [] := by
    unfold readS at ht
    cases hx : PL 25 .sets (blank s) with
    | none => rw [hx] at ht; cases ht
    | some p =>
      obtain ⟨u, q⟩ := p
      rw [hx] at ht
      dsimp only at ht
      by_cases hq : blank q = []
      · rw [if_pos hq] at ht
        obtain rfl := Option.some.inj ht
        exact ⟨q, rfl, hq⟩
      · rw [if_neg hq] at ht; cases ht
  obtain ⟨r, hS, hr⟩ := hS
  have k1 := read_1 hS hr h1
  have k2 := read_2 hS hr h2
  have k3 := read_3 hS hr h3
  subst k1 k2 k3
  exact ⟨valueS_of l1 (fun e => by cases e) h1 rfl, valueS_of l2 (fun e => by cases e) h2 rfl, valueS_of l3 (fun e => by cases e) h3 rfl⟩
end Go.Proofs.YtpjjdaenckedbaaDoor
