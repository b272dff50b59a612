/- Operators of two. -/
import Derived.Test.YthomdgejbkcljaaDoorC
namespace Go.Proofs.YthomdgejbkcljaaDoor
open Go.RowKit

theorem eq_const {s : ByteArray} {l : Bytes} : (s.toList == l) = decide (s = ⟨l.toArray⟩) := by
  rw [Lib.toList_data, Bool.eq_iff_iff, beq_iff_eq, decide_eq_true_eq]
  constructor
  · intro h
    apply ByteArray.ext
    apply Array.toList_inj.1
    rw [h]
  · intro h; rw [h]
theorem ne_const {s : ByteArray} {l : Bytes} (h : ¬ s = ⟨l.toArray⟩) : (s.toList == l) = false := by rw [eq_const]; exact decide_eq_false h
theorem eq_text (x y : ByteArray) : (x.toList == y.toList) = decide (x = y) := by
  rw [eq_const, Lib.toList_data]
set_option maxRecDepth 100000 in
/-- The six truths, laid in a map. -/
theorem tri_run (w : World) : ∃ (M : Nat) (W0 W1 W2 W3 W4 W5 W6 : World), (Instr.makeMap 58 none).run Tryd.prog w = .ok (.map (some M)) W0 ∧
    (Instr.mapUpdate 58 (.map (some M)) (.string ⟨#[45, 101, 113]⟩) (.agg #[.bool false, .bool true, .bool false])).run Tryd.prog W0 = .ok () W1 ∧
    (Instr.mapUpdate 58 (.map (some M)) (.string ⟨#[45, 110, 101]⟩) (.agg #[.bool true, .bool false, .bool true])).run Tryd.prog W1 = .ok () W2 ∧
    (Instr.mapUpdate 58 (.map (some M)) (.string ⟨#[45, 108, 116]⟩) (.agg #[.bool true, .bool false, .bool false])).run Tryd.prog W2 = .ok () W3 ∧
    (Instr.mapUpdate 58 (.map (some M)) (.string ⟨#[45, 108, 101]⟩) (.agg #[.bool true, .bool true, .bool false])).run Tryd.prog W3 = .ok () W4 ∧
    (Instr.mapUpdate 58 (.map (some M)) (.string ⟨#[45, 103, 116]⟩) (.agg #[.bool false, .bool false, .bool true])).run Tryd.prog W4 = .ok () W5 ∧
    (Instr.mapUpdate 58 (.map (some M)) (.string ⟨#[45, 103, 101]⟩) (.agg #[.bool false, .bool true, .bool true])).run Tryd.prog W5 = .ok () W6 ∧
    MapV W6 M triL ∧ Below w.heap.size w W6 := by
  have m0 : MapV (w.alloc (.map #[] 0)) w.heap.size [] := ⟨#[], 0, at_new _ _, rfl⟩
  have bb0 : Below w.heap.size w (w.alloc (.map #[] 0)) := (Below.refl _ _).alloc (Nat.le_refl _) _
  obtain ⟨W1, r1, m1, c1⟩ := map_put m0 (b3 45 101 113) (tv false true false) (by decide +kernel)
  have bb1 := c1 _ _ bb0 (Nat.le_refl _)
  obtain ⟨W2, r2, m2, c2⟩ := map_put m1 (b3 45 110 101) (tv true false true) (by decide +kernel)
  have bb2 := c2 _ _ bb1 (Nat.le_refl _)
  obtain ⟨W3, r3, m3, c3⟩ := map_put m2 (b3 45 108 116) (tv true false false) (by decide +kernel)
  have bb3 := c3 _ _ bb2 (Nat.le_refl _)
  obtain ⟨W4, r4, m4, c4⟩ := map_put m3 (b3 45 108 101) (tv true true false) (by decide +kernel)
  have bb4 := c4 _ _ bb3 (Nat.le_refl _)
  obtain ⟨W5, r5, m5, c5⟩ := map_put m4 (b3 45 103 116) (tv false false true) (by decide +kernel)
  have bb5 := c5 _ _ bb4 (Nat.le_refl _)
  obtain ⟨W6, r6, m6, c6⟩ := map_put m5 (b3 45 103 101) (tv false true true) (by decide +kernel)
  have bb6 := c6 _ _ bb5 (Nat.le_refl _)
  exact ⟨w.heap.size, _, W1, W2, W3, W4, W5, W6, run_makeMap 58 w, r1, r2, r3, r4, r5, r6, m6, bb6⟩
def twoEnd : Option Nat → Ending
  | some n => .returned (.tuple #[.int .i64 n, .bool true])
  | none => .returned (.tuple #[.int .i64 2, .bool false])
def TwoP (x op y : ByteArray) (w : World) (e : Ending) (w' : World) : Prop := e = twoEnd (twoS x op y) ∧ Below w.heap.size w w'
theorem numEnd_cases (o : Option Int) : ∃ (v : Int) (q : Bool), numEnd o = .returned (.tuple #[.int .i64 v, .bool q]) ∧ (q = true → o = some v) ∧ (q = false → o = none) := by
  cases o with
  | none => exact ⟨0, false, rfl, fun h => (by cases h), fun _ => rfl⟩
  | some v => exact ⟨v, true, rfl, fun _ => rfl, fun h => (by cases h)⟩
def pick3 (t : Bool × Bool × Bool) (n : Nat) : Bool := if n = 0 then t.1 else if n = 1 then t.2.1 else t.2.2
theorem pick_cmp (t : Bool × Bool × Bool) (a b : Int) : (if a < b then t.1 else if a = b then t.2.1 else t.2.2) = pick3 t (cmpN a b) := by
  unfold pick3 cmpN
  split
  · rfl
  · split <;> rfl
theorem twoS_tri {x op y : ByteArray} (h1 : ¬ op = b1 61) (h2 : ¬ op = b2 33 61) : twoS x op y = match tri op with
    | none => none
    | some t => match numS x.data.toList, numS y.data.toList with
      | some a, some b => some (truthN (pick3 t (cmpN a b)))
      | _, _ => some 2 := by
  unfold twoS
  rw [if_neg h1, if_neg h2]
  cases tri op with
  | none => rfl
  | some t =>
    simp only
    cases numS x.data.toList <;> cases numS y.data.toList <;> simp only [pick_cmp]

set_option maxHeartbeats 4000000 in
set_option maxRecDepth 100000 in
theorem two_any (x op y : ByteArray) (hx : x.size ≤ 140737488355328) (hy : y.size ≤ 140737488355328) (w : World) : Calls Tryd.prog 20 #[.string x, .string op, .string y] w (TwoP x op y w) := by
  by_cases h1 : op = b1 61
  · subst h1
    have HS : Hid (twoS x (b1 61) y = some (truthN (decide (x = y)))) := Lib.hid rfl
    obtain ⟨q, hq⟩ : ∃ q, decide (x = y) = q := ⟨_, rfl⟩
    have hxy : (x.toList == y.toList) = q := by rw [eq_text, hq]
    rw [hq] at HS
    have HT := Lib.hid (truth_any q)
    clear hq
    show Calls Tryd.prog 20 #[.string x, .string ⟨#[61]⟩, .string y] w _
    go_enter Tryd.func20, Tryd.ntmps20
    go_wp2_with fail
    refine (HT.out _).mono ?_
    rintro e w1 ⟨rfl, rfl⟩
    go_wp2
    exact bodyPost_ret (v := .tuple #[.int .i64 (truthN q : Nat), .bool true]) (by simp [results, Tryd.results20, go_sem]) rfl ⟨by show _ = twoEnd (twoS x (b1 61) y); rw [HS.out]; rfl, Below.refl _ _⟩
  by_cases h2 : op = b2 33 61
  · subst h2
    have HS : Hid (twoS x (b2 33 61) y = some (truthN (!decide (x = y)))) := Lib.hid rfl
    obtain ⟨q, hq⟩ : ∃ q, decide (x = y) = q := ⟨_, rfl⟩
    have hxy : (x.toList == y.toList) = q := by rw [eq_text, hq]
    rw [hq] at HS
    have HT := Lib.hid (truth_any (!q))
    clear hq h1
    show Calls Tryd.prog 20 #[.string x, .string ⟨#[33, 61]⟩, .string y] w _
    go_enter Tryd.func20, Tryd.ntmps20
    go_wp2_with fail
    refine (HT.out _).mono ?_
    rintro e w1 ⟨rfl, rfl⟩
    go_wp2
    exact bodyPost_ret (v := .tuple #[.int .i64 (truthN (!q) : Nat), .bool true]) (by simp [results, Tryd.results20, go_sem]) rfl ⟨by show _ = twoEnd (twoS x (b2 33 61) y); rw [HS.out]; rfl, Below.refl _ _⟩
  have e1 : (op.toList == [61]) = false := ne_const h1
  have e2 : (op.toList == [33, 61]) = false := ne_const h2
  have HS := Lib.hid (twoS_tri (x := x) (y := y) h1 h2)
  clear h1 h2
  obtain ⟨M, W0, W1, W2, W3, W4, W5, W6, r0, r1, r2, r3, r4, r5, r6, hm, hb⟩ := tri_run w
  have hl := map_get hm op
  have HB := Lib.hid hb
  clear hm hb
  cases ht : tri op with
  | none =>
    rw [ht] at hl HS
    replace hl : (Instr.lookup 58 (.map (some M)) (.string op) true).run Tryd.prog W6 = .ok (.tuple #[.agg #[.bool false, .bool false, .bool false], .bool false]) W6 := hl
    replace HS : Hid (twoS x op y = none) := HS
    clear ht
    go_enter Tryd.func20, Tryd.ntmps20
    go_wp2
    exact bodyPost_ret (v := .tuple #[.int .i64 2, .bool false]) (by simp [results, Tryd.results20, go_sem]) rfl ⟨by rw [HS.out]; rfl, HB.out.alloc HB.out.size _⟩
  | some t =>
    obtain ⟨a, b, c⟩ := t
    rw [ht] at hl HS
    replace hl : (Instr.lookup 58 (.map (some M)) (.string op) true).run Tryd.prog W6 = .ok (.tuple #[.agg #[.bool a, .bool b, .bool c], .bool true]) W6 := hl
    clear ht
    have HNX := Lib.hid (number_any x hx)
    have HNY := Lib.hid (number_any y hy)
    go_enter Tryd.func20, Tryd.ntmps20
    go_wp2_with fail
    refine (HNX.out _).mono ?_
    rintro e w1 ⟨he, hb1⟩
    clear r0 r1 r2 r3 r4 r5 r6 hl e1 e2
    obtain ⟨T, hc1⟩ : ∃ T, w1.heap[W6.heap.size]? = some (.cells #[.bool a, .bool b, .bool c] T (0, 0)) := ⟨_, by rw [hb1.block _ (by simp)]; exact at_new _ _⟩
    have HB1 := Lib.hid ((HB.out.alloc HB.out.size _).trans (hb1.mono (Nat.le_trans HB.out.size (by simp))))
    have hz1 : W6.heap.size < w1.heap.size := Nat.lt_of_lt_of_le (by simp) hb1.size
    clear hb1
    obtain ⟨v1, q1, hv1, ht1, hf1⟩ := numEnd_cases (numS x.data.toList)
    rw [hv1] at he
    subst he
    go_wp2_with fail
    refine (HNY.out _).mono ?_
    rintro e w2 ⟨he, hb2⟩
    have hc2 : w2.heap[W6.heap.size]? = some (.cells #[.bool a, .bool b, .bool c] T (0, 0)) := by rw [hb2.block _ hz1]; exact hc1
    have HB2 := Lib.hid (HB1.out.trans (hb2.mono HB1.out.size))
    clear hb2 hc1 hz1
    obtain ⟨v2, q2, hv2, ht2, hf2⟩ := numEnd_cases (numS y.data.toList)
    rw [hv2] at he
    subst he
    clear hv1 hv2 HNX HNY
    have HF := Lib.hid (And.intro ht1 (And.intro hf1 (And.intro ht2 hf2)))
    clear ht1 hf1 ht2 hf2
    cases q1 with
    | false =>
      have HR : Hid (twoS x op y = some 2) := Lib.hid (by rw [HS.out]; simp only [HF.out.2.1 rfl])
      go_wp2
      exact bodyPost_ret (v := .tuple #[.int .i64 2, .bool true]) (by simp [results, Tryd.results20, go_sem]) rfl ⟨by rw [HR.out]; rfl, HB2.out⟩
    | true =>
      cases q2 with
      | false =>
        have HR : Hid (twoS x op y = some 2) := Lib.hid (by rw [HS.out]; simp only [HF.out.1 rfl, HF.out.2.2.2 rfl])
        go_wp2
        exact bodyPost_ret (v := .tuple #[.int .i64 2, .bool true]) (by simp [results, Tryd.results20, go_sem]) rfl ⟨by rw [HR.out]; rfl, HB2.out⟩
      | true =>
        have HR : Hid (twoS x op y = some (truthN (pick3 (a, b, c) (cmpN v1 v2)))) := Lib.hid (by rw [HS.out]; simp only [HF.out.1 rfl, HF.out.2.2.1 rfl])
        have HC := Lib.hid (cmp_any v1 v2)
        have hn2 : cmpN v1 v2 ≤ 2 := by unfold cmpN; split <;> (try split) <;> omega
        generalize cmpN v1 v2 = n at *
        have c0 := heap_cell hc2 0
        have c1 := heap_cell hc2 1
        have c2 := heap_cell hc2 2
        obtain rfl | rfl | rfl : n = 0 ∨ n = 1 ∨ n = 2 := by omega
        · have HT := Lib.hid (truth_any a)
          go_wp2_with fail
          refine (HC.out _).mono ?_
          rintro e w3 ⟨rfl, rfl⟩
          go_wp2_with fail
          refine (HT.out _).mono ?_
          rintro e w3 ⟨rfl, rfl⟩
          go_wp2
          exact bodyPost_ret (v := .tuple #[.int .i64 (truthN a : Nat), .bool true]) (by simp [results, Tryd.results20, go_sem]) rfl ⟨by rw [HR.out]; rfl, HB2.out⟩
        · have HT := Lib.hid (truth_any b)
          go_wp2_with fail
          refine (HC.out _).mono ?_
          rintro e w3 ⟨rfl, rfl⟩
          go_wp2_with fail
          refine (HT.out _).mono ?_
          rintro e w3 ⟨rfl, rfl⟩
          go_wp2
          exact bodyPost_ret (v := .tuple #[.int .i64 (truthN b : Nat), .bool true]) (by simp [results, Tryd.results20, go_sem]) rfl ⟨by rw [HR.out]; rfl, HB2.out⟩
        · have HT := Lib.hid (truth_any c)
          go_wp2_with fail
          refine (HC.out _).mono ?_
          rintro e w3 ⟨rfl, rfl⟩
          go_wp2_with fail
          refine (HT.out _).mono ?_
          rintro e w3 ⟨rfl, rfl⟩
          go_wp2
          exact bodyPost_ret (v := .tuple #[.int .i64 (truthN c : Nat), .bool true]) (by simp [results, Tryd.results20, go_sem]) rfl ⟨by rw [HR.out]; rfl, HB2.out⟩
end Go.Proofs.YthomdgejbkcljaaDoor
