/- Expressions: what is made is a number; what is set is short. No program in sight. -/
import Derived.Test.YtpjjdaenckedbaaDoorLe
namespace Go.Proofs.YtpjjdaenckedbaaDoor
open Go.RowKit

def VS (l : List VarS) : Prop := ∀ v ∈ l, v.value.length ≤ 1000
theorem decI_len {m : Int} (hm : IsI m) : (decI m).length ≤ 20 := by
  have : (decN m.natAbs).length ≤ 19 := decN_len (k := 18) (by unfold IsI at hm; omega)
  unfold decI
  by_cases h : m < 0
  · rw [if_pos h]; simp; omega
  · rw [if_neg h]; omega
theorem numV_is {s : Bytes} {n : Int} (h : numV s = some n) : IsI n := by
  unfold numV at h
  by_cases h1 : s = []
  · rw [if_pos h1] at h; obtain rfl := Option.some.inj h; unfold IsI; omega
  · rw [if_neg h1] at h
    by_cases h2 : headIs [45] s = true
    · rw [if_pos h2] at h
      cases hc : constantS (s.drop 1) with
      | none => rw [hc] at h; cases h
      | some m => rw [hc] at h; obtain rfl := Option.some.inj h; exact w64_is _
    · rw [if_neg h2] at h; exact const_is h
theorem truth_is (b : Bool) : IsI (truthS b) := by cases b <;> (unfold truthS IsI; simp)
theorem fdiv_is {a : Int} (ha : IsI a) (k : Nat) : IsI (a.fdiv (2 ^ k)) := by
  rw [Int.fdiv_eq_ediv_of_nonneg _ (Int.pow_nonneg (by decide))]
  have hp : (1 : Int) ≤ 2 ^ k := by
    have : (0 : Int) < 2 ^ k := Int.pow_pos (by decide)
    omega
  generalize (2 : Int) ^ k = p at *
  unfold IsI at *
  constructor
  · have := Int.le_ediv_of_mul_le (a := -9223372036854775808) (b := a) (c := p) (by omega) (by
      have : 9223372036854775808 * 1 ≤ 9223372036854775808 * p := Int.mul_le_mul_of_nonneg_left hp (by omega)
      omega)
    exact this
  · by_cases h0 : 0 ≤ a
    · have := Int.ediv_le_self (a := a) p h0
      omega
    · have := Int.ediv_neg_of_neg_of_pos (a := a) (b := p) (by omega) (by omega)
      omega
theorem tmod_is {a b : Int} (ha : IsI a) : IsI (a.tmod b) := by
  unfold IsI at *
  have h := Int.natAbs_tmod a b
  have h2 : a.natAbs % b.natAbs ≤ a.natAbs := Nat.mod_le _ _
  have h3 : 0 ≤ a → 0 ≤ a.tmod b := fun h => Int.tmod_nonneg _ h
  have h4 : a ≤ 0 → a.tmod b ≤ 0 := fun h => by
    have := Int.tmod_nonneg b (a := -a) (by omega)
    rw [Int.neg_tmod] at this; omega
  rw [← h] at h2
  omega
theorem twoV_is {s : Bytes} {a b n : Int} (ha : IsI a) (h : twoV s a b = some n) : IsI n := by
  unfold twoV at h
  by_cases h0 : s = [124]
  · rw [if_pos h0] at h; obtain rfl := Option.some.inj h; exact w64_is _
  rw [if_neg h0] at h
  by_cases h1 : s = [94]
  · rw [if_pos h1] at h; obtain rfl := Option.some.inj h; exact w64_is _
  rw [if_neg h1] at h
  by_cases h2 : s = [38]
  · rw [if_pos h2] at h; obtain rfl := Option.some.inj h; exact w64_is _
  rw [if_neg h2] at h
  by_cases h3 : s = [61,61]
  · rw [if_pos h3] at h; obtain rfl := Option.some.inj h; exact truth_is _
  rw [if_neg h3] at h
  by_cases h4 : s = [33,61]
  · rw [if_pos h4] at h; obtain rfl := Option.some.inj h; exact truth_is _
  rw [if_neg h4] at h
  by_cases h5 : s = [60]
  · rw [if_pos h5] at h; obtain rfl := Option.some.inj h; exact truth_is _
  rw [if_neg h5] at h
  by_cases h6 : s = [60,61]
  · rw [if_pos h6] at h; obtain rfl := Option.some.inj h; exact truth_is _
  rw [if_neg h6] at h
  by_cases h7 : s = [62]
  · rw [if_pos h7] at h; obtain rfl := Option.some.inj h; exact truth_is _
  rw [if_neg h7] at h
  by_cases h8 : s = [62,61]
  · rw [if_pos h8] at h; obtain rfl := Option.some.inj h; exact truth_is _
  rw [if_neg h8] at h
  by_cases h9 : s = [60,60]
  · rw [if_pos h9] at h; obtain rfl := Option.some.inj h; exact w64_is _
  rw [if_neg h9] at h
  by_cases h10 : s = [62,62]
  · rw [if_pos h10] at h; obtain rfl := Option.some.inj h; exact fdiv_is ha _
  rw [if_neg h10] at h
  by_cases h11 : s = [43]
  · rw [if_pos h11] at h; obtain rfl := Option.some.inj h; exact w64_is _
  rw [if_neg h11] at h
  by_cases h12 : s = [45]
  · rw [if_pos h12] at h; obtain rfl := Option.some.inj h; exact w64_is _
  rw [if_neg h12] at h
  by_cases h13 : s = [42]
  · rw [if_pos h13] at h; obtain rfl := Option.some.inj h; exact w64_is _
  rw [if_neg h13] at h
  by_cases hb : b = 0
  · rw [if_pos hb] at h; cases h
  rw [if_neg hb] at h
  by_cases h47 : s = [47]
  · rw [if_pos h47] at h; obtain rfl := Option.some.inj h; exact w64_is _
  rw [if_neg h47] at h; obtain rfl := Option.some.inj h; exact tmod_is ha
theorem putV_vs {x v : Bytes} (hv : v.length ≤ 1000) : ∀ {l : List VarS}, VS l → VS (putV x v l) ∧ (putV x v l).length ≤ l.length + 1
  | [], _ => ⟨fun u hu => by simp [putV] at hu; subst hu; exact hv, by simp [putV]⟩
  | f :: l, h => by
    by_cases hp : f.name = x
    · refine ⟨fun u hu => ?_, by simp [putV, hp]⟩
      simp [putV, hp] at hu
      rcases hu with rfl | hu
      · exact hv
      · exact h u (by simp [hu])
    · have ih := putV_vs (x := x) hv (l := l) (fun u hu => h u (by simp [hu]))
      refine ⟨fun u hu => ?_, ?_⟩
      · rw [putV, if_neg hp] at hu
        rcases List.mem_cons.1 hu with rfl | hu
        · exact h _ (by simp)
        · exact ih.1 u hu
      · rw [putV, if_neg hp]
        simp only [List.length_cons]
        omega
theorem unV_is {s : Bytes} {x : Int} (h : IsI x) : IsI (unV s x) := by
  unfold unV
  repeat' split
  all_goals first | exact w64_is _ | exact truth_is _ | exact h
theorem not_is (x : Int) : IsI (xor64 (-1) x) := w64_is _
/-- What an expression makes. -/
theorem ev_ok (vars : List VarS) : ∀ (t : T) (st : List VarS) (n : Int) (st' : List VarS), WF t → VS st → ev vars t st = .ok (n, st') → IsI n ∧ VS st' ∧ st'.length ≤ st.length + cnt t
  | .num n, st, _, _, hw, hs, h => by
    obtain ⟨rfl, rfl⟩ : n = _ ∧ st = _ := by simpa [ev] using h
    exact ⟨hw, hs, by simp [cnt]⟩
  | .name x, st, m, st', hw, hs, h => by
    unfold ev ofE at h
    cases hn : numV (lookV vars st x) with
    | none => rw [hn] at h; cases h
    | some k =>
      rw [hn] at h
      obtain ⟨rfl, rfl⟩ : k = m ∧ st = st' := by simpa using h
      exact ⟨numV_is hn, hs, by simp [cnt]⟩
  | .set s x k, st, m, st', hw, hs, h => by
    unfold ev at h
    cases hk : ev vars k st with
    | error e => rw [hk] at h; cases h
    | ok p =>
      obtain ⟨v, st1⟩ := p
      obtain ⟨i1, i2, i3⟩ := ev_ok vars k st v st1 hw.2.2.2.2 hs hk
      rw [hk] at h
      simp only [bindE, setE] at h
      by_cases hd : s.dropLast = []
      · rw [if_pos hd] at h
        obtain ⟨rfl, rfl⟩ : v = m ∧ putV x (decI v) st1 = st' := by simpa [storeE] using h
        have := putV_vs (x := x) (v := decI v) (Nat.le_trans (decI_len i1) (by omega)) i2
        exact ⟨i1, this.1, by simp only [cnt]; omega⟩
      · rw [if_neg hd] at h
        cases hn : numV (lookV vars st1 x) with
        | none => rw [hn] at h; cases h
        | some a =>
          rw [hn] at h
          simp only [ofE] at h
          cases ht : twoV s.dropLast a v with
          | none => rw [ht] at h; cases h
          | some u =>
            rw [ht] at h
            have hu := twoV_is (numV_is hn) ht
            obtain ⟨rfl, rfl⟩ : u = m ∧ putV x (decI u) st1 = st' := by simpa [storeE] using h
            have := putV_vs (x := x) (v := decI u) (Nat.le_trans (decI_len hu) (by omega)) i2
            exact ⟨hu, this.1, by simp only [cnt]; omega⟩
  | .cond a b c, st, m, st', hw, hs, h => by
    unfold ev at h
    cases hk : ev vars a st with
    | error e => rw [hk] at h; cases h
    | ok p =>
      obtain ⟨v, st1⟩ := p
      obtain ⟨i1, i2, i3⟩ := ev_ok vars a st v st1 hw.1 hs hk
      rw [hk] at h
      simp only [bindE] at h
      by_cases hv : v ≠ 0
      · rw [if_pos hv] at h
        obtain ⟨j1, j2, j3⟩ := ev_ok vars b st1 m st' hw.2.1 i2 h
        exact ⟨j1, j2, by simp only [cnt]; omega⟩
      · rw [if_neg hv] at h
        obtain ⟨j1, j2, j3⟩ := ev_ok vars c st1 m st' hw.2.2 i2 h
        exact ⟨j1, j2, by simp only [cnt]; omega⟩
  | .two s a b, st, m, st', hw, hs, h => by
    unfold ev at h
    cases hk : ev vars a st with
    | error e => rw [hk] at h; cases h
    | ok p =>
      obtain ⟨v, st1⟩ := p
      obtain ⟨i1, i2, i3⟩ := ev_ok vars a st v st1 hw.2.2.1 hs hk
      rw [hk] at h
      simp only [bindE] at h
      have one : IsI 1 := by unfold IsI; omega
      have zero : IsI 0 := by unfold IsI; omega
      by_cases ho : s = [124,124]
      · rw [if_pos ho] at h
        by_cases hv : v ≠ 0
        · rw [if_pos hv] at h
          obtain ⟨rfl, rfl⟩ : (1 : Int) = m ∧ st1 = st' := by simpa using h
          exact ⟨one, i2, by simp only [cnt]; omega⟩
        · rw [if_neg hv] at h
          cases hb : ev vars b st1 with
          | error e => rw [hb] at h; cases h
          | ok q =>
            obtain ⟨y, st2⟩ := q
            obtain ⟨j1, j2, j3⟩ := ev_ok vars b st1 y st2 hw.2.2.2 i2 hb
            rw [hb] at h
            simp only [Except.ok.injEq, Prod.mk.injEq] at h
            obtain ⟨rfl, rfl⟩ := h
            exact ⟨truth_is _, j2, by simp only [cnt]; omega⟩
      · rw [if_neg ho] at h
        by_cases ha : s = [38,38]
        · rw [if_pos ha] at h
          by_cases hv : v = 0
          · rw [if_pos hv] at h
            obtain ⟨rfl, rfl⟩ : (0 : Int) = m ∧ st1 = st' := by simpa using h
            exact ⟨zero, i2, by simp only [cnt]; omega⟩
          · rw [if_neg hv] at h
            cases hb : ev vars b st1 with
            | error e => rw [hb] at h; cases h
            | ok q =>
              obtain ⟨y, st2⟩ := q
              obtain ⟨j1, j2, j3⟩ := ev_ok vars b st1 y st2 hw.2.2.2 i2 hb
              rw [hb] at h
              simp only [Except.ok.injEq, Prod.mk.injEq] at h
              obtain ⟨rfl, rfl⟩ := h
              exact ⟨truth_is _, j2, by simp only [cnt]; omega⟩
        · rw [if_neg ha] at h
          cases hb : ev vars b st1 with
          | error e => rw [hb] at h; cases h
          | ok q =>
            obtain ⟨y, st2⟩ := q
            obtain ⟨j1, j2, j3⟩ := ev_ok vars b st1 y st2 hw.2.2.2 i2 hb
            rw [hb] at h
            simp only [ofE] at h
            cases ht : twoV s v y with
            | none => rw [ht] at h; cases h
            | some u =>
              rw [ht] at h
              obtain ⟨rfl, rfl⟩ : u = m ∧ st2 = st' := by simpa using h
              exact ⟨twoV_is i1 ht, j2, by simp only [cnt]; omega⟩
  | .un s a, st, m, st', hw, hs, h => by
    unfold ev at h
    cases hk : ev vars a st with
    | error e => rw [hk] at h; cases h
    | ok p =>
      obtain ⟨v, st1⟩ := p
      obtain ⟨i1, i2, i3⟩ := ev_ok vars a st v st1 hw.2 hs hk
      rw [hk] at h
      obtain ⟨rfl, rfl⟩ : unV s v = m ∧ st1 = st' := by simpa [bindE] using h
      exact ⟨unV_is i1, i2, i3⟩
end Go.Proofs.YtpjjdaenckedbaaDoor
