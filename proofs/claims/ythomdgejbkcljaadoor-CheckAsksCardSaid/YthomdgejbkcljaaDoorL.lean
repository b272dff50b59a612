/- The document's Check. -/
import Derived.Test.YthomdgejbkcljaaDoorK
namespace Go.Proofs.YthomdgejbkcljaaDoor
open Go.RowKit

theorem isTwo_some {op : ByteArray} (h : isTwo op = true) (x y : ByteArray) : ∃ n, twoS x op y = some n := by
  unfold isTwo at h
  unfold twoS
  by_cases h1 : op = b1 61
  · rw [if_pos h1]; exact ⟨_, rfl⟩
  · rw [if_neg h1]
    by_cases h2 : op = b2 33 61
    · rw [if_pos h2]; exact ⟨_, rfl⟩
    · rw [if_neg h2]
      cases ht : tri op with
      | none => simp [h1, h2, ht] at h
      | some t =>
        simp only
        split <;> exact ⟨_, rfl⟩
theorem isTwo_none {op : ByteArray} (h : isTwo op = false) (x y : ByteArray) : twoS x op y = none := by
  unfold isTwo at h
  unfold twoS
  simp only [Bool.or_eq_false_iff, decide_eq_false_iff_not] at h
  rw [if_neg h.1.1, if_neg h.1.2]
  cases ht : tri op with
  | none => rfl
  | some t => rw [ht] at h; simp at h
theorem rnot_lit {t : Told} {n : Int} {p : ByteArray} {b : Bool} (ht : told t = toldV n p b) (h2 : ∀ n, t = .inl n → n ≤ 2) (w : World) : Calls Tryd.prog 17 #[toldV n p b] w (RT (told (notS t)) w) := by
  rw [← ht]; exact rnot_any t h2 w

theorem rcheck_0 (a : Option Addr) (cap : Nat) (v : Value) (w : World) : Calls Tryd.prog 10 #[.slice a 0 cap, v] w (RT (told (.inl 1)) w) := by
  go_enter Tryd.func10, Tryd.ntmps10
  go_wp2
  exact leave10 w.heap.size rfl (at_new _ _) ⟨rfl, (Below.refl _ _).alloc (Nat.le_refl _) _⟩
set_option maxRecDepth 100000 in
theorem rcheck_many (a : Option Addr) (n cap : Nat) (v : Value) (w : World) (hn : 4 < n) : Calls Tryd.prog 10 #[.slice a n cap, v] w (RT (told (.inl 2)) w) := by
  have h0 : ¬ (n : Int) = 0 := by omega
  have h1 : ¬ (n : Int) = 1 := by omega
  have h2 : ¬ (n : Int) = 2 := by omega
  have h3 : ¬ (n : Int) = 3 := by omega
  have h4 : ¬ (n : Int) = 4 := by omega
  clear hn
  go_enter Tryd.func10, Tryd.ntmps10
  go_wp2
  exact leave10 w.heap.size rfl (at_new _ _) ⟨rfl, (Below.refl _ _).alloc (Nat.le_refl _) _⟩
theorem rcheck_1 (b off cap : Nat) (s0 : ByteArray) (v : Value) (w : World) (hL : SL w b off 1 cap [s0]) : Calls Tryd.prog 10 #[.slice (some ⟨b, off, none⟩) 1 cap, v] w (RT (told (t1 s0)) w) := by
  have HI := Lib.hid (new_told w)
  have HB := Lib.hid (new_below w)
  have a0 : ∀ o, (w.alloc o).cell? ⟨b, off, none⟩ = some (.string s0) := fun o => (hL.below ((Below.refl _ _).alloc (Nat.le_refl _) o)).cell 0 (by simp)
  have he := is_empty s0
  have HR : Hid (t1 s0 = .inl (truthN (!decide (s0.size = 0)))) := Lib.hid rfl
  generalize decide (s0.size = 0) = q at *
  have HC : Hid (∀ W, Calls Tryd.prog 16 #[.bool (!q)] W (RT (told (.inl (truthN (!q)))) W)) := Lib.hid (fun W => rtruth_any _ W)
  clear hL
  go_enter Tryd.func10, Tryd.ntmps10
  go_wp2_with fail
  refine (HC.out _).mono ?_
  rintro e w2 hh
  obtain ⟨n, p, b0, ht, rfl, hi, hb⟩ := ans HI.out HB.out hh
  have HI9 := Lib.hid hi
  have HT9 := Lib.hid ht
  have c0 := heap_cell hi 0
  have c1 := heap_cell hi 1
  have c2 := heap_cell hi 2
  have f0 := heap_free hi 0
  have f1 := heap_free hi 1
  have f2 := heap_free hi 2
  clear hi hh ht
  go_wp2
  exact leave10 w.heap.size rfl (put3 HI9.out _ _ _) ⟨by rw [HR.out, HT9.out], below3 hb (Nat.le_refl _) _ _ _⟩
set_option maxRecDepth 100000 in
theorem rcheck_2 (b off cap : Nat) (s0 s1 : ByteArray) (v : Value) (fs : List FactS) (w : World) (hF : InF w v fs) (hn : fs.length ≤ 140737488355328) (hL : SL w b off 2 cap [s0, s1]) :
    Calls Tryd.prog 10 #[.slice (some ⟨b, off, none⟩) 2 cap, v] w (RT (told (t2 s0 s1 fs)) w) := by
  have HI := Lib.hid (new_told w)
  have HB := Lib.hid (new_below w)
  have a0 : ∀ o, (w.alloc o).cell? ⟨b, off, none⟩ = some (.string s0) := fun o => (hL.below ((Below.refl _ _).alloc (Nat.le_refl _) o)).cell 0 (by simp)
  have a1 : ∀ o, (w.alloc o).cell? ⟨b, off + 1, none⟩ = some (.string s1) := fun o => (hL.below ((Below.refl _ _).alloc (Nat.le_refl _) o)).cell 1 (by simp)
  have hc2 : 2 ≤ cap := hL.cap
  have HL := Lib.hid (hL.below (new_below w))
  have HF := Lib.hid (hF.below (new_below w))
  clear hL hF
  by_cases k : s0 = b1 33
  · have o33 : (s0.toList == [33]) = true := by rw [eq_const]; exact decide_eq_true k
    have HR : Hid (t2 s0 s1 fs = notS (t1 s1)) := Lib.hid (by unfold t2; rw [if_pos k])
    clear k
    go_enter Tryd.func10, Tryd.ntmps10
    go_wp2_with fail
    refine (rcheck_1 _ _ _ s1 v _ HL.out.tail).mono ?_
    rintro e w2 hh
    obtain ⟨n, p, b0, ht, rfl, hi, hb⟩ := ans HI.out HB.out hh
    have HN := Lib.hid (rnot_lit ht (fun n h => t1_le h))
    have HI2 := Lib.hid hi
    have HB2 := Lib.hid hb
    clear hi hh ht hb
    go_wp2_with fail
    refine (HN.out _).mono ?_
    rintro e w2 hh
    obtain ⟨n', p', b0', ht, rfl, hi, hb⟩ := ans HI2.out HB2.out hh
    have HI9 := Lib.hid hi
    have HT9 := Lib.hid ht
    have c0 := heap_cell hi 0
    have c1 := heap_cell hi 1
    have c2 := heap_cell hi 2
    have f0 := heap_free hi 0
    have f1 := heap_free hi 1
    have f2 := heap_free hi 2
    clear hi hh ht
    go_wp2
    exact leave10 w.heap.size rfl (put3 HI9.out _ _ _) ⟨by rw [HR.out, HT9.out], below3 hb (Nat.le_refl _) _ _ _⟩
  · have o33 : (s0.toList == [33]) = false := ne_const k
    have HR : Hid (t2 s0 s1 fs = oneS s0 s1 fs) := Lib.hid (by unfold t2; rw [if_neg k])
    clear k
    go_enter Tryd.func10, Tryd.ntmps10
    have d0 := a0 (.cells #[.int .i64 0, .string noB, .bool false] 28)
    have d1 := a1 (.cells #[.int .i64 0, .string noB, .bool false] 28)
    go_upto_region 9 with fail
    generalize w.alloc (Obj.cells #[.int .i64 0, .string noB, .bool false] 28) = W1 at *
    go_still_tail 7, (by kernel_rfl)
    have HI1 : Hid (IsT W1.drew w.heap.size 0 noB false) := Lib.hid HI.out
    have HB1 : Hid (Below w.heap.size w W1.drew) := Lib.hid HB.out.drew
    have HF1 : Hid (InF W1.drew v fs) := Lib.hid (HF.out.below (Below.refl _ _).drew)
    go_wp2_with fail
    refine (rone_any s0 s1 v fs _ HF1.out hn).mono ?_
    rintro e w2 hh
    obtain ⟨n, p, b0, ht, rfl, hi, hb⟩ := ans HI1.out HB1.out hh
    have HI9 := Lib.hid hi
    have HT9 := Lib.hid ht
    have c0 := heap_cell hi 0
    have c1 := heap_cell hi 1
    have c2 := heap_cell hi 2
    have f0 := heap_free hi 0
    have f1 := heap_free hi 1
    have f2 := heap_free hi 2
    clear hi hh ht
    go_wp2
    exact leave10 w.heap.size rfl (put3 HI9.out _ _ _) ⟨by rw [HR.out, HT9.out], below3 hb (Nat.le_refl _) _ _ _⟩
set_option maxHeartbeats 2000000 in
set_option maxRecDepth 100000 in
theorem rcheck_3 (b off cap : Nat) (s0 s1 s2 : ByteArray) (v : Value) (fs : List FactS) (w : World) (hF : InF w v fs) (hn : fs.length ≤ 140737488355328) (hL : SL w b off 3 cap [s0, s1, s2]) (hz : s0.size ≤ 140737488355328 ∧ s2.size ≤ 140737488355328) :
    Calls Tryd.prog 10 #[.slice (some ⟨b, off, none⟩) 3 cap, v] w (RT (told (t3 s0 s1 s2 fs)) w) := by
  have HI := Lib.hid (new_told w)
  have HB := Lib.hid (new_below w)
  have a0 : ∀ o, (w.alloc o).cell? ⟨b, off, none⟩ = some (.string s0) := fun o => (hL.below ((Below.refl _ _).alloc (Nat.le_refl _) o)).cell 0 (by simp)
  have a1 : ∀ o, (w.alloc o).cell? ⟨b, off + 1, none⟩ = some (.string s1) := fun o => (hL.below ((Below.refl _ _).alloc (Nat.le_refl _) o)).cell 1 (by simp)
  have a2 : ∀ o, (w.alloc o).cell? ⟨b, off + 2, none⟩ = some (.string s2) := fun o => (hL.below ((Below.refl _ _).alloc (Nat.le_refl _) o)).cell 2 (by simp)
  have hc2 : 3 ≤ cap := hL.cap
  have HL := Lib.hid (hL.below (new_below w))
  have HF := Lib.hid (hF.below (new_below w))
  have HZ := Lib.hid hz
  clear hL hF hz
  obtain ⟨q, hq⟩ : ∃ q, isTwo s1 = q := ⟨_, rfl⟩
  have HTW : Hid (∀ W, Calls Tryd.prog 13 #[.string s1] W fun e w' => e = .returned (.bool q) ∧ w' = W) := Lib.hid (fun W => by
    have := Two_any s1 W
    rw [hq] at this
    exact this)
  cases q with
  | true =>
    obtain ⟨m, hm⟩ := isTwo_some hq s0 s2
    have HR : Hid (t3 s0 s1 s2 fs = .inl m) := Lib.hid (by unfold t3; rw [hm])
    have HM := Lib.hid hm
    clear hq hm
    go_enter Tryd.func10, Tryd.ntmps10
    go_wp2_with fail
    refine (HTW.out _).mono ?_
    rintro e w2 ⟨rfl, rfl⟩
    have d0 := a0 (.cells #[.int .i64 0, .string noB, .bool false] 28)
    have d1 := a1 (.cells #[.int .i64 0, .string noB, .bool false] 28)
    have d2 := a2 (.cells #[.int .i64 0, .string noB, .bool false] 28)
    go_upto_region 13 with fail
    generalize w.alloc (Obj.cells #[.int .i64 0, .string noB, .bool false] 28) = W1 at *
    go_still_tail 9, (by kernel_rfl)
    have HI1 : Hid (IsT W1.drew w.heap.size 0 noB false) := Lib.hid HI.out
    have HB1 : Hid (Below w.heap.size w W1.drew) := Lib.hid HB.out.drew
    go_wp2_with fail
    refine (rtwo_any s0 s1 s2 HZ.out.1 HZ.out.2 m HM.out _).mono ?_
    rintro e w2 hh
    obtain ⟨n, p, b0, ht, rfl, hi, hb⟩ := ans HI1.out HB1.out hh
    have HI9 := Lib.hid hi
    have HT9 := Lib.hid ht
    have c0 := heap_cell hi 0
    have c1 := heap_cell hi 1
    have c2 := heap_cell hi 2
    have f0 := heap_free hi 0
    have f1 := heap_free hi 1
    have f2 := heap_free hi 2
    clear hi hh ht
    go_wp2
    exact leave10 w.heap.size rfl (put3 HI9.out _ _ _) ⟨by rw [HR.out, HT9.out], below3 hb (Nat.le_refl _) _ _ _⟩
  | false =>
    have HR : Hid (t3 s0 s1 s2 fs = if s0 = b1 33 then notS (t2 s1 s2 fs) else if s0 = b1 40 ∧ s2 = b1 41 then t1 s1 else .inl 2) := Lib.hid (by unfold t3; rw [isTwo_none hq])
    clear hq
    by_cases k : s0 = b1 33
    · have o33 : (s0.toList == [33]) = true := by rw [eq_const]; exact decide_eq_true k
      have hR2 := HR.out
      rw [if_pos k] at hR2
      have HR := Lib.hid hR2
      clear k hR2
      go_enter Tryd.func10, Tryd.ntmps10
      go_wp2_with fail
      refine (HTW.out _).mono ?_
      rintro e w2 ⟨rfl, rfl⟩
      go_wp2_with fail
      refine (rcheck_2 _ _ _ s1 s2 v fs _ HF.out hn HL.out.tail).mono ?_
      rintro e w2 hh
      obtain ⟨n, p, b0, ht, rfl, hi, hb⟩ := ans HI.out HB.out hh
      have HN := Lib.hid (rnot_lit ht (fun n h => t2_le h))
      have HI2 := Lib.hid hi
      have HB2 := Lib.hid hb
      clear hi hh ht hb
      go_wp2_with fail
      refine (HN.out _).mono ?_
      rintro e w2 hh
      obtain ⟨n', p', b0', ht, rfl, hi, hb⟩ := ans HI2.out HB2.out hh
      have HI9 := Lib.hid hi
      have HT9 := Lib.hid ht
      have c0 := heap_cell hi 0
      have c1 := heap_cell hi 1
      have c2 := heap_cell hi 2
      have f0 := heap_free hi 0
      have f1 := heap_free hi 1
      have f2 := heap_free hi 2
      clear hi hh ht
      go_wp2
      exact leave10 w.heap.size rfl (put3 HI9.out _ _ _) ⟨by rw [HR.out, HT9.out], below3 hb (Nat.le_refl _) _ _ _⟩
    · have o33 : (s0.toList == [33]) = false := ne_const k
      have hR2 := HR.out
      rw [if_neg k] at hR2
      clear k
      by_cases k4 : s0 = b1 40
      · have o40 : (s0.toList == [40]) = true := by rw [eq_const]; exact decide_eq_true k4
        by_cases k5 : s2 = b1 41
        · have o41 : (s2.toList == [41]) = true := by rw [eq_const]; exact decide_eq_true k5
          rw [if_pos ⟨k4, k5⟩] at hR2
          have he := is_empty s1
          have hR3 : t3 s0 s1 s2 fs = .inl (truthN (!decide (s1.size = 0))) := hR2
          obtain ⟨q, hq⟩ : ∃ q, decide (s1.size = 0) = q := ⟨_, rfl⟩
          rw [hq] at hR3 he
          have HR := Lib.hid hR3
          have HC : Hid (∀ W, Calls Tryd.prog 16 #[.bool (!q)] W (RT (told (.inl (truthN (!q)))) W)) := Lib.hid (fun W => rtruth_any _ W)
          clear k4 k5 hR2 hR3 hq
          go_enter Tryd.func10, Tryd.ntmps10
          go_wp2_with fail
          refine (HTW.out _).mono ?_
          rintro e w2 ⟨rfl, rfl⟩
          go_wp2_with fail
          refine (HC.out _).mono ?_
          rintro e w2 hh
          obtain ⟨n, p, b0, ht, rfl, hi, hb⟩ := ans HI.out HB.out hh
          have HI9 := Lib.hid hi
          have HT9 := Lib.hid ht
          have c0 := heap_cell hi 0
          have c1 := heap_cell hi 1
          have c2 := heap_cell hi 2
          have f0 := heap_free hi 0
          have f1 := heap_free hi 1
          have f2 := heap_free hi 2
          clear hi hh ht
          go_wp2
          exact leave10 w.heap.size rfl (put3 HI9.out _ _ _) ⟨by rw [HR.out, HT9.out], below3 hb (Nat.le_refl _) _ _ _⟩
        · have o41 : (s2.toList == [41]) = false := ne_const k5
          rw [if_neg (fun h => k5 h.2)] at hR2
          have HR := Lib.hid hR2
          clear k4 k5 hR2
          go_enter Tryd.func10, Tryd.ntmps10
          go_wp2_with fail
          refine (HTW.out _).mono ?_
          rintro e w2 ⟨rfl, rfl⟩
          go_wp2
          exact leave10 w.heap.size rfl (at_new _ _) ⟨by rw [HR.out]; rfl, (Below.refl _ _).alloc (Nat.le_refl _) _⟩
      · have o40 : (s0.toList == [40]) = false := ne_const k4
        rw [if_neg (fun h => k4 h.1)] at hR2
        have HR := Lib.hid hR2
        clear k4 hR2
        go_enter Tryd.func10, Tryd.ntmps10
        go_wp2_with fail
        refine (HTW.out _).mono ?_
        rintro e w2 ⟨rfl, rfl⟩
        go_wp2
        exact leave10 w.heap.size rfl (at_new _ _) ⟨by rw [HR.out]; rfl, (Below.refl _ _).alloc (Nat.le_refl _) _⟩
set_option maxHeartbeats 2000000 in
set_option maxRecDepth 100000 in
theorem rcheck_4 (b off cap : Nat) (s0 s1 s2 s3 : ByteArray) (v : Value) (fs : List FactS) (w : World) (hF : InF w v fs) (hn : fs.length ≤ 140737488355328) (hL : SL w b off 4 cap [s0, s1, s2, s3]) (hz : s1.size ≤ 140737488355328 ∧ s3.size ≤ 140737488355328) :
    Calls Tryd.prog 10 #[.slice (some ⟨b, off, none⟩) 4 cap, v] w (RT (told (t4 s0 s1 s2 s3 fs)) w) := by
  have HI := Lib.hid (new_told w)
  have HB := Lib.hid (new_below w)
  have a0 : ∀ o, (w.alloc o).cell? ⟨b, off, none⟩ = some (.string s0) := fun o => (hL.below ((Below.refl _ _).alloc (Nat.le_refl _) o)).cell 0 (by simp)
  have a1 : ∀ o, (w.alloc o).cell? ⟨b, off + 1, none⟩ = some (.string s1) := fun o => (hL.below ((Below.refl _ _).alloc (Nat.le_refl _) o)).cell 1 (by simp)
  have a2 : ∀ o, (w.alloc o).cell? ⟨b, off + 2, none⟩ = some (.string s2) := fun o => (hL.below ((Below.refl _ _).alloc (Nat.le_refl _) o)).cell 2 (by simp)
  have a3 : ∀ o, (w.alloc o).cell? ⟨b, off + 3, none⟩ = some (.string s3) := fun o => (hL.below ((Below.refl _ _).alloc (Nat.le_refl _) o)).cell 3 (by simp)
  have hc2 : 4 ≤ cap := hL.cap
  have HL := Lib.hid (hL.below (new_below w))
  have HF := Lib.hid (hF.below (new_below w))
  have HZ := Lib.hid hz
  clear hL hF hz
  have HR : Hid (t4 s0 s1 s2 s3 fs = if s0 = b1 33 then notS (t3 s1 s2 s3 fs) else if s0 = b1 40 ∧ s3 = b1 41 then t2 s1 s2 fs else .inl 2) := Lib.hid rfl
  by_cases k : s0 = b1 33
  · have o33 : (s0.toList == [33]) = true := by rw [eq_const]; exact decide_eq_true k
    have hR2 := HR.out
    rw [if_pos k] at hR2
    have HR := Lib.hid hR2
    clear k hR2
    go_enter Tryd.func10, Tryd.ntmps10
    go_wp2_with fail
    refine (rcheck_3 _ _ _ s1 s2 s3 v fs _ HF.out hn HL.out.tail HZ.out).mono ?_
    rintro e w2 hh
    obtain ⟨n, p, b0, ht, rfl, hi, hb⟩ := ans HI.out HB.out hh
    have HN := Lib.hid (rnot_lit ht (fun n h => t3_le h))
    have HI2 := Lib.hid hi
    have HB2 := Lib.hid hb
    clear hi hh ht hb
    go_wp2_with fail
    refine (HN.out _).mono ?_
    rintro e w2 hh
    obtain ⟨n', p', b0', ht, rfl, hi, hb⟩ := ans HI2.out HB2.out hh
    have HI9 := Lib.hid hi
    have HT9 := Lib.hid ht
    have c0 := heap_cell hi 0
    have c1 := heap_cell hi 1
    have c2 := heap_cell hi 2
    have f0 := heap_free hi 0
    have f1 := heap_free hi 1
    have f2 := heap_free hi 2
    clear hi hh ht
    go_wp2
    exact leave10 w.heap.size rfl (put3 HI9.out _ _ _) ⟨by rw [HR.out, HT9.out], below3 hb (Nat.le_refl _) _ _ _⟩
  · have o33 : (s0.toList == [33]) = false := ne_const k
    have hR2 := HR.out
    rw [if_neg k] at hR2
    clear k
    by_cases k4 : s0 = b1 40
    · have o40 : (s0.toList == [40]) = true := by rw [eq_const]; exact decide_eq_true k4
      by_cases k5 : s3 = b1 41
      · have o41 : (s3.toList == [41]) = true := by rw [eq_const]; exact decide_eq_true k5
        rw [if_pos ⟨k4, k5⟩] at hR2
        have HR := Lib.hid hR2
        clear k4 k5 hR2
        have HM := Lib.hid ((HL.out.tail).take 2 (by omega))
        have h3c : 3 ≤ cap := by omega
        go_enter Tryd.func10, Tryd.ntmps10
        go_wp2_with fail
        refine (rcheck_2 _ _ _ s1 s2 v fs _ HF.out hn HM.out).mono ?_
        rintro e w2 hh
        obtain ⟨n, p, b0, ht, rfl, hi, hb⟩ := ans HI.out HB.out hh
        have HI9 := Lib.hid hi
        have HT9 := Lib.hid ht
        have c0 := heap_cell hi 0
        have c1 := heap_cell hi 1
        have c2 := heap_cell hi 2
        have f0 := heap_free hi 0
        have f1 := heap_free hi 1
        have f2 := heap_free hi 2
        clear hi hh ht
        go_wp2
        exact leave10 w.heap.size rfl (put3 HI9.out _ _ _) ⟨by rw [HR.out, HT9.out], below3 hb (Nat.le_refl _) _ _ _⟩
      · have o41 : (s3.toList == [41]) = false := ne_const k5
        rw [if_neg (fun h => k5 h.2)] at hR2
        have HR := Lib.hid hR2
        clear k4 k5 hR2
        go_enter Tryd.func10, Tryd.ntmps10
        go_wp2
        exact leave10 w.heap.size rfl (at_new _ _) ⟨by rw [HR.out]; rfl, (Below.refl _ _).alloc (Nat.le_refl _) _⟩
    · have o40 : (s0.toList == [40]) = false := ne_const k4
      rw [if_neg (fun h => k4 h.1)] at hR2
      have HR := Lib.hid hR2
      clear k4 hR2
      go_enter Tryd.func10, Tryd.ntmps10
      go_wp2
      exact leave10 w.heap.size rfl (at_new _ _) ⟨by rw [HR.out]; rfl, (Below.refl _ _).alloc (Nat.le_refl _) _⟩
end Go.Proofs.YthomdgejbkcljaaDoor
