/- The document's operators of two. -/
import Derived.Test.YthomdgejbkcljaaDoorD
namespace Go.Proofs.YthomdgejbkcljaaDoor
open Go.RowKit

theorem Two_any (op : ByteArray) (w : World) : Calls Tryd.prog 13 #[.string op] w fun e w' => e = .returned (.bool (isTwo op)) ∧ w' = w := by
  have key : ∀ op : ByteArray, isTwo op = (decide (op = b1 61) || decide (op = b2 33 61) || decide (op = b3 45 101 113) || decide (op = b3 45 110 101) || decide (op = b3 45 108 116) || decide (op = b3 45 108 101) || decide (op = b3 45 103 116) || decide (op = b3 45 103 101)) := fun op => by
    unfold isTwo tri
    by_cases k1 : op = b3 45 101 113
    · subst k1; decide
    by_cases k2 : op = b3 45 110 101
    · subst k2; decide
    by_cases k3 : op = b3 45 108 116
    · subst k3; decide
    by_cases k4 : op = b3 45 108 101
    · subst k4; decide
    by_cases k5 : op = b3 45 103 116
    · subst k5; decide
    by_cases k6 : op = b3 45 103 101
    · subst k6; decide
    simp [k1, k2, k3, k4, k5, k6]
  have HK := Lib.hid (key op)
  clear key
  have e1 : (op.toList == [61]) = decide (op = b1 61) := eq_const
  have e2 : (op.toList == [33, 61]) = decide (op = b2 33 61) := eq_const
  have e3 : (op.toList == [45, 101, 113]) = decide (op = b3 45 101 113) := eq_const
  have e4 : (op.toList == [45, 110, 101]) = decide (op = b3 45 110 101) := eq_const
  have e5 : (op.toList == [45, 108, 116]) = decide (op = b3 45 108 116) := eq_const
  have e6 : (op.toList == [45, 108, 101]) = decide (op = b3 45 108 101) := eq_const
  have e7 : (op.toList == [45, 103, 116]) = decide (op = b3 45 103 116) := eq_const
  have e8 : (op.toList == [45, 103, 101]) = decide (op = b3 45 103 101) := eq_const
  obtain ⟨q, hq⟩ : ∃ q, isTwo op = q := ⟨_, rfl⟩
  rw [hq] at HK ⊢
  clear hq
  generalize decide (op = b1 61) = d1 at *
  generalize decide (op = b2 33 61) = d2 at *
  generalize decide (op = b3 45 101 113) = d3 at *
  generalize decide (op = b3 45 110 101) = d4 at *
  generalize decide (op = b3 45 108 116) = d5 at *
  generalize decide (op = b3 45 108 101) = d6 at *
  generalize decide (op = b3 45 103 116) = d7 at *
  generalize decide (op = b3 45 103 101) = d8 at *
  go_enter Tryd.func13, Tryd.ntmps13
  cases d1 with
  | true =>
    go_wp2
    go_ret
    exact ⟨by rw [HK.out]; rfl, rfl⟩
  | false =>
    cases d2 with
    | true =>
      go_wp2
      go_ret
      exact ⟨by rw [HK.out]; rfl, rfl⟩
    | false =>
      cases d3 with
      | true =>
        go_wp2
        go_ret
        exact ⟨by rw [HK.out]; rfl, rfl⟩
      | false =>
        cases d4 with
        | true =>
          go_wp2
          go_ret
          exact ⟨by rw [HK.out]; rfl, rfl⟩
        | false =>
          cases d5 with
          | true =>
            go_wp2
            go_ret
            exact ⟨by rw [HK.out]; rfl, rfl⟩
          | false =>
            cases d6 with
            | true =>
              go_wp2
              go_ret
              exact ⟨by rw [HK.out]; rfl, rfl⟩
            | false =>
              cases d7 with
              | true =>
                go_wp2
                go_ret
                exact ⟨by rw [HK.out]; rfl, rfl⟩
              | false =>
                cases d8 with
                | true =>
                  go_wp2
                  go_ret
                  exact ⟨by rw [HK.out]; rfl, rfl⟩
                | false =>
                  go_wp2
                  go_ret
                  exact ⟨by rw [HK.out]; rfl, rfl⟩
theorem p_eq (a b : Int) : pick3 (false, true, false) (cmpN a b) = (a == b) := by
  rw [← pick_cmp]
  by_cases h : a < b
  · rw [if_pos h]; simp; omega
  · rw [if_neg h]; by_cases h2 : a = b <;> simp [h2]
theorem p_ne (a b : Int) : pick3 (true, false, true) (cmpN a b) = (a != b) := by
  rw [← pick_cmp]
  by_cases h : a < b
  · rw [if_pos h]; simp; omega
  · rw [if_neg h]; by_cases h2 : a = b <;> simp [h2]
theorem p_lt (a b : Int) : pick3 (true, false, false) (cmpN a b) = decide (a < b) := by
  rw [← pick_cmp]
  by_cases h : a < b
  · rw [if_pos h]; simp [h]
  · rw [if_neg h]; by_cases h2 : a = b <;> simp [h2] <;> omega
theorem p_le (a b : Int) : pick3 (true, true, false) (cmpN a b) = decide (a ≤ b) := by
  rw [← pick_cmp]
  by_cases h : a < b
  · rw [if_pos h]; simp; omega
  · rw [if_neg h]; by_cases h2 : a = b <;> simp [h2] <;> omega
theorem p_gt (a b : Int) : pick3 (false, false, true) (cmpN a b) = decide (b < a) := by
  rw [← pick_cmp]
  by_cases h : a < b
  · rw [if_pos h]; simp; omega
  · rw [if_neg h]; by_cases h2 : a = b <;> simp [h2] <;> omega
theorem p_ge (a b : Int) : pick3 (false, true, true) (cmpN a b) = decide (b ≤ a) := by
  rw [← pick_cmp]
  by_cases h : a < b
  · rw [if_pos h]; simp; omega
  · rw [if_neg h]; by_cases h2 : a = b <;> simp [h2] <;> omega
/-- The result's cell is still what it was. -/
theorem cell_still {w W w' : World} {n0 : Nat} {n : Int} {p : ByteArray} {b : Bool} (h : IsT W n0 n p b) (hb : Below W.heap.size W w') : IsT w' n0 n p b := by
  unfold IsT at *
  have := (Array.getElem?_eq_some_iff.1 h).1
  rw [hb.block n0 this]; exact h

theorem put3 {W : World} {n0 : Nat} {n : Int} {p : ByteArray} {b : Bool} (h : IsT W n0 n p b) (n' : Int) (p' : ByteArray) (b' : Bool) :
    IsT (((W.setCell ⟨n0, 0, none⟩ (.int .i64 n')).setCell ⟨n0, 1, none⟩ (.string p')).setCell ⟨n0, 2, none⟩ (.bool b')) n0 n' p' b' :=
  set_same (set_same (set_same h _) _) _
theorem below3 {a W : World} {n0 B : Nat} (h : Below B a W) (hn : B ≤ n0) (u v x : Value) : Below B a (((W.setCell ⟨n0, 0, none⟩ u).setCell ⟨n0, 1, none⟩ v).setCell ⟨n0, 2, none⟩ x) :=
  ((h.setCell hn _).setCell hn _).setCell hn _
theorem new_told (w : World) : IsT (w.alloc (.cells #[.int .i64 0, .string noB, .bool false] 28)) w.heap.size 0 noB false := at_new _ _
theorem new_below (w : World) : Below w.heap.size w (w.alloc (.cells #[.int .i64 0, .string noB, .bool false] 28)) := (Below.refl _ _).alloc (Nat.le_refl _) _
theorem new_mono {w w' : World} (h : Below (w.alloc (.cells #[.int .i64 0, .string noB, .bool false] 28)).heap.size (w.alloc (.cells #[.int .i64 0, .string noB, .bool false] 28)) w') : Below w.heap.size w w' :=
  (new_below w).trans (h.mono (by simp))
set_option maxHeartbeats 4000000 in
set_option maxRecDepth 100000 in
theorem rtwo_any (x op y : ByteArray) (hx : x.size ≤ 140737488355328) (hy : y.size ≤ 140737488355328) (n : Nat) (hn : twoS x op y = some n) (w : World) : Calls Tryd.prog 19 #[.string x, .string op, .string y] w (RT (told (.inl n)) w) := by
  by_cases h1 : op = b1 61
  · subst h1
    have hn2 : some (truthN (decide (x = y))) = some n := hn
    obtain rfl := Option.some.inj hn2
    obtain ⟨q, hq⟩ : ∃ q, decide (x = y) = q := ⟨_, rfl⟩
    have hxy : (x.toList == y.toList) = q := by rw [eq_text, hq]
    rw [hq]
    have HT : Hid (∀ w, Calls Tryd.prog 16 #[.bool q] w (RT (toldV (truthN q : Nat) noB false) w)) := Lib.hid (rtruth_any q)
    clear hq hn hn2
    show Calls Tryd.prog 19 #[.string x, .string ⟨#[61]⟩, .string y] w _
    go_enter Tryd.func19, Tryd.ntmps19
    go_wp2_with fail
    refine (HT.out _).mono ?_
    rintro e w1 ⟨rfl, hb⟩
    have HI := Lib.hid (new_told w)
    have HB := Lib.hid (new_below w)
    have hi := cell_still (w := w) HI.out hb
    have HB9 := Lib.hid (HB.out.trans (hb.mono HB.out.size))
    have HI9 := Lib.hid hi
    have c0 := heap_cell hi 0
    have c1 := heap_cell hi 1
    have c2 := heap_cell hi 2
    have f0 := heap_free hi 0
    have f1 := heap_free hi 1
    have f2 := heap_free hi 2
    clear hb hi
    go_wp2
    exact leave19 w.heap.size rfl (put3 HI9.out _ _ _) ⟨rfl, below3 HB9.out (Nat.le_refl _) _ _ _⟩
  by_cases h2 : op = b2 33 61
  · subst h2
    have hn2 : some (truthN (!decide (x = y))) = some n := hn
    obtain rfl := Option.some.inj hn2
    obtain ⟨q, hq⟩ : ∃ q, decide (x = y) = q := ⟨_, rfl⟩
    have hxy : (x.toList == y.toList) = q := by rw [eq_text, hq]
    rw [hq]
    have HT : Hid (∀ w, Calls Tryd.prog 16 #[.bool (!q)] w (RT (toldV (truthN (!q) : Nat) noB false) w)) := Lib.hid (rtruth_any (!q))
    clear hq hn hn2
    show Calls Tryd.prog 19 #[.string x, .string ⟨#[33, 61]⟩, .string y] w _
    go_enter Tryd.func19, Tryd.ntmps19
    go_wp2_with fail
    refine (HT.out _).mono ?_
    rintro e w1 ⟨rfl, hb⟩
    have HI := Lib.hid (new_told w)
    have HB := Lib.hid (new_below w)
    have hi := cell_still (w := w) HI.out hb
    have HB9 := Lib.hid (HB.out.trans (hb.mono HB.out.size))
    have HI9 := Lib.hid hi
    have c0 := heap_cell hi 0
    have c1 := heap_cell hi 1
    have c2 := heap_cell hi 2
    have f0 := heap_free hi 0
    have f1 := heap_free hi 1
    have f2 := heap_free hi 2
    clear hb hi
    go_wp2
    exact leave19 w.heap.size rfl (put3 HI9.out _ _ _) ⟨rfl, below3 HB9.out (Nat.le_refl _) _ _ _⟩
  have e1 : (op.toList == [61]) = false := ne_const h1
  have e2 : (op.toList == [33, 61]) = false := ne_const h2
  rw [twoS_tri h1 h2] at hn
  clear h1 h2
  have HNX := Lib.hid (rnumber_any x hx)
  have HNY := Lib.hid (rnumber_any y hy)
  have HI := Lib.hid (new_told w)
  have HB := Lib.hid (new_below w)
  have HN := Lib.hid hn
  clear hn
  obtain ⟨v1, q1, hv1, ht1, hf1⟩ := numEnd_cases (numS x.data.toList)
  obtain ⟨v2, q2, hv2, ht2, hf2⟩ := numEnd_cases (numS y.data.toList)
  have HF := Lib.hid (And.intro ht1 (And.intro hf1 (And.intro ht2 hf2)))
  clear ht1 hf1 ht2 hf2
  have HV := Lib.hid (And.intro hv1 hv2)
  clear hv1 hv2
  have i0 := HI.out
  have c0 := heap_cell i0 0
  have c1 := heap_cell i0 1
  have c2 := heap_cell i0 2
  have f0 := heap_free i0 0
  have f1 := heap_free i0 1
  have f2 := heap_free i0 2
  clear i0
  go_enter Tryd.func19, Tryd.ntmps19
  go_wp2_with fail
  refine (HNX.out _).mono ?_
  rintro e w1 ⟨he, rfl⟩
  rw [HV.out.1] at he
  subst he
  go_wp2_with fail
  refine (HNY.out _).mono ?_
  rintro e w1 ⟨he, rfl⟩
  rw [HV.out.2] at he
  subst he
  cases q1 with
  | false =>
    have HR : Hid (n = 2) := Lib.hid (by
      have h := HN.out
      cases ht : tri op with
      | none => rw [ht] at h; cases h
      | some t => rw [ht, HF.out.2.1 rfl] at h; exact (Option.some.inj h).symm)
    go_wp2
    exact leave19 w.heap.size rfl (at_new _ _) ⟨by rw [HR.out]; rfl, (Below.refl _ _).alloc (Nat.le_refl _) _⟩
  | true =>
    cases q2 with
    | false =>
      have HR : Hid (n = 2) := Lib.hid (by
        have h := HN.out
        cases ht : tri op with
        | none => rw [ht] at h; cases h
        | some t => rw [ht, HF.out.1 rfl, HF.out.2.2.2 rfl] at h; exact (Option.some.inj h).symm)
      go_wp2
      exact leave19 w.heap.size rfl (at_new _ _) ⟨by rw [HR.out]; rfl, (Below.refl _ _).alloc (Nat.le_refl _) _⟩
    | true =>
      have HR : Hid (∀ t, tri op = some t → n = truthN (pick3 t (cmpN v1 v2))) := Lib.hid (fun t ht => by
        have h := HN.out
        rw [ht, HF.out.1 rfl, HF.out.2.2.1 rfl] at h
        exact (Option.some.inj h).symm)
      have HNO : Hid (tri op = none → False) := Lib.hid (fun ht => by have h := HN.out; rw [ht] at h; cases h)
      clear HN HF HV HNX HNY c0 c1 c2 f0 f1 f2
      by_cases k0 : op = b3 45 101 113
      · have g0 : (op.toList == [45, 101, 113]) = true := by rw [eq_const]; exact decide_eq_true k0
        have HRR : Hid (n = truthN (v1 == v2)) := Lib.hid (by rw [HR.out (false, true, false) (by rw [k0]; decide), p_eq])
        obtain ⟨q, hq⟩ : ∃ q, (v1 == v2) = q := ⟨_, rfl⟩
        rw [hq] at HRR
        have HT : Hid (∀ w, Calls Tryd.prog 16 #[.bool q] w (RT (toldV (truthN q : Nat) noB false) w)) := Lib.hid (rtruth_any q)
        clear HR HNO k0
        go_wp2_with fail
        refine (HT.out _).mono ?_
        rintro e w1 ⟨rfl, hb⟩
        have hi := cell_still (w := w) HI.out hb
        have HB9 := Lib.hid (HB.out.trans (hb.mono HB.out.size))
        have HI9 := Lib.hid hi
        have c0 := heap_cell hi 0
        have c1 := heap_cell hi 1
        have c2 := heap_cell hi 2
        have f0 := heap_free hi 0
        have f1 := heap_free hi 1
        have f2 := heap_free hi 2
        clear hb hi
        go_wp2
        exact leave19 w.heap.size rfl (put3 HI9.out _ _ _) ⟨by rw [HRR.out]; rfl, below3 HB9.out (Nat.le_refl _) _ _ _⟩
      have g0 : (op.toList == [45, 101, 113]) = false := ne_const k0
      by_cases k1 : op = b3 45 110 101
      · have g1 : (op.toList == [45, 110, 101]) = true := by rw [eq_const]; exact decide_eq_true k1
        have HRR : Hid (n = truthN (v1 != v2)) := Lib.hid (by rw [HR.out (true, false, true) (by rw [k1]; decide), p_ne])
        obtain ⟨q, hq⟩ : ∃ q, (v1 != v2) = q := ⟨_, rfl⟩
        rw [hq] at HRR
        have HT : Hid (∀ w, Calls Tryd.prog 16 #[.bool q] w (RT (toldV (truthN q : Nat) noB false) w)) := Lib.hid (rtruth_any q)
        clear HR HNO k1
        go_wp2_with fail
        refine (HT.out _).mono ?_
        rintro e w1 ⟨rfl, hb⟩
        have hi := cell_still (w := w) HI.out hb
        have HB9 := Lib.hid (HB.out.trans (hb.mono HB.out.size))
        have HI9 := Lib.hid hi
        have c0 := heap_cell hi 0
        have c1 := heap_cell hi 1
        have c2 := heap_cell hi 2
        have f0 := heap_free hi 0
        have f1 := heap_free hi 1
        have f2 := heap_free hi 2
        clear hb hi
        go_wp2
        exact leave19 w.heap.size rfl (put3 HI9.out _ _ _) ⟨by rw [HRR.out]; rfl, below3 HB9.out (Nat.le_refl _) _ _ _⟩
      have g1 : (op.toList == [45, 110, 101]) = false := ne_const k1
      by_cases k2 : op = b3 45 108 116
      · have g2 : (op.toList == [45, 108, 116]) = true := by rw [eq_const]; exact decide_eq_true k2
        have HRR : Hid (n = truthN (decide (v1 < v2))) := Lib.hid (by rw [HR.out (true, false, false) (by rw [k2]; decide), p_lt])
        obtain ⟨q, hq⟩ : ∃ q, (decide (v1 < v2)) = q := ⟨_, rfl⟩
        rw [hq] at HRR
        have HT : Hid (∀ w, Calls Tryd.prog 16 #[.bool q] w (RT (toldV (truthN q : Nat) noB false) w)) := Lib.hid (rtruth_any q)
        clear HR HNO k2
        go_wp2_with fail
        refine (HT.out _).mono ?_
        rintro e w1 ⟨rfl, hb⟩
        have hi := cell_still (w := w) HI.out hb
        have HB9 := Lib.hid (HB.out.trans (hb.mono HB.out.size))
        have HI9 := Lib.hid hi
        have c0 := heap_cell hi 0
        have c1 := heap_cell hi 1
        have c2 := heap_cell hi 2
        have f0 := heap_free hi 0
        have f1 := heap_free hi 1
        have f2 := heap_free hi 2
        clear hb hi
        go_wp2
        exact leave19 w.heap.size rfl (put3 HI9.out _ _ _) ⟨by rw [HRR.out]; rfl, below3 HB9.out (Nat.le_refl _) _ _ _⟩
      have g2 : (op.toList == [45, 108, 116]) = false := ne_const k2
      by_cases k3 : op = b3 45 108 101
      · have g3 : (op.toList == [45, 108, 101]) = true := by rw [eq_const]; exact decide_eq_true k3
        have HRR : Hid (n = truthN (decide (v1 ≤ v2))) := Lib.hid (by rw [HR.out (true, true, false) (by rw [k3]; decide), p_le])
        obtain ⟨q, hq⟩ : ∃ q, (decide (v1 ≤ v2)) = q := ⟨_, rfl⟩
        rw [hq] at HRR
        have HT : Hid (∀ w, Calls Tryd.prog 16 #[.bool q] w (RT (toldV (truthN q : Nat) noB false) w)) := Lib.hid (rtruth_any q)
        clear HR HNO k3
        go_wp2_with fail
        refine (HT.out _).mono ?_
        rintro e w1 ⟨rfl, hb⟩
        have hi := cell_still (w := w) HI.out hb
        have HB9 := Lib.hid (HB.out.trans (hb.mono HB.out.size))
        have HI9 := Lib.hid hi
        have c0 := heap_cell hi 0
        have c1 := heap_cell hi 1
        have c2 := heap_cell hi 2
        have f0 := heap_free hi 0
        have f1 := heap_free hi 1
        have f2 := heap_free hi 2
        clear hb hi
        go_wp2
        exact leave19 w.heap.size rfl (put3 HI9.out _ _ _) ⟨by rw [HRR.out]; rfl, below3 HB9.out (Nat.le_refl _) _ _ _⟩
      have g3 : (op.toList == [45, 108, 101]) = false := ne_const k3
      by_cases k4 : op = b3 45 103 116
      · have g4 : (op.toList == [45, 103, 116]) = true := by rw [eq_const]; exact decide_eq_true k4
        have HRR : Hid (n = truthN (decide (v2 < v1))) := Lib.hid (by rw [HR.out (false, false, true) (by rw [k4]; decide), p_gt])
        obtain ⟨q, hq⟩ : ∃ q, (decide (v2 < v1)) = q := ⟨_, rfl⟩
        rw [hq] at HRR
        have HT : Hid (∀ w, Calls Tryd.prog 16 #[.bool q] w (RT (toldV (truthN q : Nat) noB false) w)) := Lib.hid (rtruth_any q)
        clear HR HNO k4
        go_wp2_with fail
        refine (HT.out _).mono ?_
        rintro e w1 ⟨rfl, hb⟩
        have hi := cell_still (w := w) HI.out hb
        have HB9 := Lib.hid (HB.out.trans (hb.mono HB.out.size))
        have HI9 := Lib.hid hi
        have c0 := heap_cell hi 0
        have c1 := heap_cell hi 1
        have c2 := heap_cell hi 2
        have f0 := heap_free hi 0
        have f1 := heap_free hi 1
        have f2 := heap_free hi 2
        clear hb hi
        go_wp2
        exact leave19 w.heap.size rfl (put3 HI9.out _ _ _) ⟨by rw [HRR.out]; rfl, below3 HB9.out (Nat.le_refl _) _ _ _⟩
      have g4 : (op.toList == [45, 103, 116]) = false := ne_const k4
      by_cases k5 : op = b3 45 103 101
      · have g5 : (op.toList == [45, 103, 101]) = true := by rw [eq_const]; exact decide_eq_true k5
        have HRR : Hid (n = truthN (decide (v2 ≤ v1))) := Lib.hid (by rw [HR.out (false, true, true) (by rw [k5]; decide), p_ge])
        obtain ⟨q, hq⟩ : ∃ q, (decide (v2 ≤ v1)) = q := ⟨_, rfl⟩
        rw [hq] at HRR
        have HT : Hid (∀ w, Calls Tryd.prog 16 #[.bool q] w (RT (toldV (truthN q : Nat) noB false) w)) := Lib.hid (rtruth_any q)
        clear HR HNO k5
        go_wp2_with fail
        refine (HT.out _).mono ?_
        rintro e w1 ⟨rfl, hb⟩
        have hi := cell_still (w := w) HI.out hb
        have HB9 := Lib.hid (HB.out.trans (hb.mono HB.out.size))
        have HI9 := Lib.hid hi
        have c0 := heap_cell hi 0
        have c1 := heap_cell hi 1
        have c2 := heap_cell hi 2
        have f0 := heap_free hi 0
        have f1 := heap_free hi 1
        have f2 := heap_free hi 2
        clear hb hi
        go_wp2
        exact leave19 w.heap.size rfl (put3 HI9.out _ _ _) ⟨by rw [HRR.out]; rfl, below3 HB9.out (Nat.le_refl _) _ _ _⟩
      have g5 : (op.toList == [45, 103, 101]) = false := ne_const k5
      exact (HNO.out (by unfold tri; simp [k0, k1, k2, k3, k4, k5])).elim
end Go.Proofs.YthomdgejbkcljaaDoor
