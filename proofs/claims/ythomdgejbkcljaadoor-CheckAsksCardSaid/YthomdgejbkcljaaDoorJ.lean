/- What arguments tell: the program's tells. -/
import Derived.Test.YthomdgejbkcljaaDoorI
import Derived.StillTailTactics
import Derived.Deep.RegionHeld3
namespace Go.Proofs.YthomdgejbkcljaaDoor
open Go.RowKit

def t1 (b : ByteArray) : Told := .inl (truthN (!decide (b.size = 0)))
def t2 (a b : ByteArray) (fs : List FactS) : Told := if a = b1 33 then notS (t1 b) else oneS a b fs
def t3 (a b c : ByteArray) (fs : List FactS) : Told := match twoS a b c with
  | some t => .inl t
  | none => if a = b1 33 then notS (t2 b c fs) else if a = b1 40 ∧ c = b1 41 then t1 b else .inl 2
def t4 (a b c d : ByteArray) (fs : List FactS) : Told := if a = b1 33 then notS (t3 b c d fs) else if a = b1 40 ∧ d = b1 41 then t2 b c fs else .inl 2
theorem truthN_le (b : Bool) : truthN b ≤ 2 := by cases b <;> decide
theorem t1_le {b : ByteArray} {n : Nat} (h : t1 b = .inl n) : n ≤ 2 := by
  have := Sum.inl.inj h
  rw [← this]; exact truthN_le _
theorem notS_le {t : Told} {n : Nat} (h : notS t = .inl n) : n ≤ 2 := by
  cases t with
  | inr x => cases h
  | inl m =>
    have := Sum.inl.inj h
    rw [← this]; split <;> omega
theorem oneS_le {a b : ByteArray} {fs : List FactS} {n : Nat} (h : oneS a b fs = .inl n) : n ≤ 2 := by
  unfold oneS at h
  split at h
  · rw [← Sum.inl.inj h]; exact truthN_le _
  · split at h
    · rw [← Sum.inl.inj h]; exact truthN_le _
    · split at h
      · split at h
        · cases h
        · rw [← Sum.inl.inj h]; exact truthN_le _
      · rw [← Sum.inl.inj h]; exact Nat.le_refl _
theorem twoS_le {a b c : ByteArray} {n : Nat} (h : twoS a b c = some n) : n ≤ 2 := by
  unfold twoS at h
  split at h
  · rw [← Option.some.inj h]; exact truthN_le _
  · split at h
    · rw [← Option.some.inj h]; exact truthN_le _
    · split at h
      · cases h
      · split at h
        · rw [← Option.some.inj h]; exact truthN_le _
        · rw [← Option.some.inj h]; exact Nat.le_refl _
theorem t2_le {a b : ByteArray} {fs : List FactS} {n : Nat} (h : t2 a b fs = .inl n) : n ≤ 2 := by
  unfold t2 at h
  split at h
  · exact notS_le h
  · exact oneS_le h
theorem t3_le {a b c : ByteArray} {fs : List FactS} {n : Nat} (h : t3 a b c fs = .inl n) : n ≤ 2 := by
  unfold t3 at h
  split at h
  · rename_i t ht; rw [← Sum.inl.inj h]; exact twoS_le ht
  · split at h
    · exact notS_le h
    · split at h
      · exact t1_le h
      · rw [← Sum.inl.inj h]; exact Nat.le_refl _
theorem twoEnd_cases (o : Option Nat) : ∃ (n : Nat) (q : Bool), twoEnd o = .returned (.tuple #[.int .i64 n, .bool q]) ∧ (q = true → o = some n) ∧ (q = false → o = none ∧ n = 2) := by
  cases o with
  | none => exact ⟨2, false, rfl, fun h => (by cases h), fun _ => ⟨rfl, rfl⟩⟩
  | some v => exact ⟨v, true, rfl, fun _ => rfl, fun h => (by cases h)⟩
/-- Arguments, as they lie. -/
structure SL (w : World) (b off n cap : Nat) (L : List ByteArray) : Prop where
  len : L.length = n
  cap : n ≤ cap
  cell : ∀ j (h : j < L.length), w.cell? ⟨b, off + j, none⟩ = some (.string L[j])
theorem SL.below {w w' : World} {b off n cap : Nat} {L : List ByteArray} (h : SL w b off n cap L) (hb : Below w.heap.size w w') : SL w' b off n cap L :=
  ⟨h.len, h.cap, fun j hj => by rw [hb.cell (p := ⟨b, off + j, none⟩) (World.block_lt_of_cell? w _ (h.cell j hj))]; exact h.cell j hj⟩
theorem SL.tail {w : World} {b off n cap : Nat} {s : ByteArray} {L : List ByteArray} (h : SL w b off (n + 1) cap (s :: L)) : SL w b (off + 1) n (cap - 1) L :=
  ⟨by have := h.len; simpa using this, by have := h.cap; omega, fun j hj => by
    have := h.cell (j + 1) (by simpa using hj)
    rw [show off + 1 + j = off + (j + 1) by omega]
    exact this⟩
theorem SL.take {w : World} {b off n cap : Nat} {L : List ByteArray} (h : SL w b off n cap L) (m : Nat) (hm : m ≤ n) : SL w b off m cap (L.take m) :=
  ⟨by rw [List.length_take, h.len]; omega, Nat.le_trans hm h.cap, fun j hj => by
    rw [List.length_take] at hj
    have := h.cell j (by omega)
    simpa using this⟩

theorem tells_1 (b off cap : Nat) (s0 : ByteArray) (v : Value) (fs : List FactS) (w : World) (hL : SL w b off 1 cap [s0]) : Calls Tryd.prog 15 #[.slice (some ⟨b, off, none⟩) 1 cap, v] w (TP (t1 s0) w) := by
  have c0 : w.cell? ⟨b, off, none⟩ = some (.string s0) := hL.cell 0 (by simp)
  have he := is_empty s0
  have HR : Hid (t1 s0 = .inl (truthN (!decide (s0.size = 0)))) := Lib.hid rfl
  generalize decide (s0.size = 0) = q at *
  clear hL
  go_enter Tryd.func15, Tryd.ntmps15
  go_wp2_with fail
  refine (truth_any _ _).mono ?_
  rintro e w2 ⟨rfl, rfl⟩
  go_wp2
  go_ret
  exact ⟨by rw [HR.out]; rfl, Below.refl _ _⟩
set_option maxRecDepth 100000 in
theorem tells_2 (b off cap : Nat) (s0 s1 : ByteArray) (v : Value) (fs : List FactS) (w : World) (hF : InF w v fs) (hn : fs.length ≤ 140737488355328) (hL : SL w b off 2 cap [s0, s1]) :
    Calls Tryd.prog 15 #[.slice (some ⟨b, off, none⟩) 2 cap, v] w (TP (t2 s0 s1 fs) w) := by
  have c0 : w.cell? ⟨b, off, none⟩ = some (.string s0) := hL.cell 0 (by simp)
  have c1 : w.cell? ⟨b, off + 1, none⟩ = some (.string s1) := hL.cell 1 (by simp)
  have hc2 : 2 ≤ cap := hL.cap
  have HL := Lib.hid hL
  have HF := Lib.hid hF
  clear hL hF
  by_cases k : s0 = b1 33
  · have o33 : (s0.toList == [33]) = true := by rw [eq_const]; exact decide_eq_true k
    have HR : Hid (t2 s0 s1 fs = notS (t1 s1)) := Lib.hid (by unfold t2; rw [if_pos k])
    clear k
    go_enter Tryd.func15, Tryd.ntmps15
    go_wp2_with fail
    refine (tells_1 _ _ _ s1 v fs _ HL.out.tail).mono ?_
    rintro e w1 ⟨he, hb⟩
    have HB := Lib.hid hb
    clear hb
    cases ht : t1 s1 with
    | inr x => cases ht
    | inl n =>
      have h2 := t1_le ht
      rw [ht] at he HR
      replace he : e = .returned (.int .i64 n) := he
      subst he
      clear ht
      have HN := Lib.hid (not_any n h2)
      clear h2
      go_wp2_with fail
      refine (HN.out _).mono ?_
      rintro e w2 ⟨rfl, rfl⟩
      go_wp2
      go_ret
      exact ⟨by rw [HR.out]; rfl, HB.out⟩
  · have o33 : (s0.toList == [33]) = false := ne_const k
    have HR : Hid (t2 s0 s1 fs = oneS s0 s1 fs) := Lib.hid (by unfold t2; rw [if_neg k])
    clear k
    go_enter Tryd.func15, Tryd.ntmps15
    go_wp2_with fail
    go_still_tail 7, (by kernel_rfl)
    have hdr : Below w.heap.size w w.drew := (Below.refl _ _).drew
    go_wp2_with fail
    refine (one_any s0 s1 v fs _ (HF.out.below hdr) hn).mono ?_
    rintro e w1 ⟨he, hb⟩
    have HB := Lib.hid (hdr.trans hb)
    clear hb hdr
    cases ht : oneS s0 s1 fs with
    | inr x =>
      rw [ht] at he HR
      replace he : e = .panicked [{ v := .iface 41 (.string x), recovered := false }] := he
      subst he
      clear ht
      go_wp2
      exact ⟨rfl, by rw [HR.out]; rfl, HB.out⟩
    | inl n =>
      rw [ht] at he HR
      replace he : e = .returned (.int .i64 n) := he
      subst he
      clear ht
      go_wp2
      go_ret
      exact ⟨by rw [HR.out]; rfl, HB.out⟩
/-- What is told is handed on. -/
theorem tells_0 (a : Option Addr) (cap : Nat) (v : Value) (w : World) : Calls Tryd.prog 15 #[.slice a 0 cap, v] w (TP (.inl 1) w) := by
  go_enter Tryd.func15, Tryd.ntmps15
  go_wp2
  go_ret
  exact ⟨rfl, Below.refl _ _⟩
set_option maxRecDepth 100000 in
theorem tells_many (a : Option Addr) (n cap : Nat) (v : Value) (w : World) (hn : 4 < n) : Calls Tryd.prog 15 #[.slice a n cap, v] w (TP (.inl 2) w) := by
  have h0 : ¬ (n : Int) = 0 := by omega
  have h1 : ¬ (n : Int) = 1 := by omega
  have h3 : ¬ (n : Int) = 3 := by omega
  have h4 : (4 : Int) < n := by omega
  clear hn
  go_enter Tryd.func15, Tryd.ntmps15
  go_wp2
  go_ret
  exact ⟨rfl, Below.refl _ _⟩
set_option maxHeartbeats 2000000 in
set_option maxRecDepth 100000 in
theorem tells_3 (b off cap : Nat) (s0 s1 s2 : ByteArray) (v : Value) (fs : List FactS) (w : World) (hF : InF w v fs) (hn : fs.length ≤ 140737488355328) (hL : SL w b off 3 cap [s0, s1, s2]) (hz : s0.size ≤ 140737488355328 ∧ s2.size ≤ 140737488355328) :
    Calls Tryd.prog 15 #[.slice (some ⟨b, off, none⟩) 3 cap, v] w (TP (t3 s0 s1 s2 fs) w) := by
  have c0 : w.cell? ⟨b, off, none⟩ = some (.string s0) := hL.cell 0 (by simp)
  have c1 : w.cell? ⟨b, off + 1, none⟩ = some (.string s1) := hL.cell 1 (by simp)
  have c2 : w.cell? ⟨b, off + 2, none⟩ = some (.string s2) := hL.cell 2 (by simp)
  have hc2 : 3 ≤ cap := hL.cap
  have HL := Lib.hid hL
  have HF := Lib.hid hF
  clear hL hF
  have KP : ∀ W', Below w.heap.size w W' → (Below w.heap.size w W' ∧ W'.cell? ⟨b, off, none⟩ = some (.string s0) ∧ W'.cell? ⟨b, off + 1, none⟩ = some (.string s1) ∧ W'.cell? ⟨b, off + 2, none⟩ = some (.string s2)) := fun W' hW => by
    have h := HL.out.below hW
    exact ⟨hW, h.cell 0 (by simp), h.cell 1 (by simp), h.cell 2 (by simp)⟩
  obtain ⟨n0, q0, hq0, hqt, hqf⟩ := twoEnd_cases (twoS s0 s1 s2)
  have HTW : ∀ W, Calls Tryd.prog 20 #[.string s0, .string s1, .string s2] W fun e w' => e = .returned (.tuple #[.int .i64 n0, .bool q0]) ∧ Below W.heap.size W w' := fun W => by
    have h := two_any s0 s1 s2 hz.1 hz.2 W
    unfold TwoP at h
    rw [hq0] at h
    exact h
  have HQ := Lib.hid (And.intro hqt hqf)
  clear hq0 hqt hqf hz
  go_enter Tryd.func15, Tryd.ntmps15
  go_upto_region 3 with fail
  go_region_held3 (fun W' => Below w.heap.size w W' ∧ W'.cell? ⟨b, off, none⟩ = some (.string s0) ∧ W'.cell? ⟨b, off + 1, none⟩ = some (.string s1) ∧ W'.cell? ⟨b, off + 2, none⟩ = some (.string s2))
    (first
      | exact KP _ (Below.refl _ _).drew
      | exact KP _ (Below.refl _ _)
      | exact KP _ (drewN_below (Below.refl _ _) _)
      | exact KP _ hbz
      | exact KP _ hbz.drew
      | exact KP _ (drewN_below hbz _))
    (first
      | (go_at_call 20; refine (HTW _).mono ?_; rintro e w1 ⟨rfl, hb1⟩; have hbz : Below w.heap.size w w1 := (‹Below w.heap.size w _ ∧ _›).1.trans (hb1.mono (‹Below w.heap.size w _ ∧ _›).1.size)))
  have HB := Lib.hid hbz
  have HL1 := Lib.hid (HL.out.below HB.out)
  have HF1 := Lib.hid (HF.out.below HB.out)
  clear hb1 hbz KP c0 c1 c2 HTW
  cases q0 with
  | true =>
    have HR : Hid (t3 s0 s1 s2 fs = .inl n0) := Lib.hid (by unfold t3; rw [HQ.out.1 rfl])
    go_wp2
    go_ret
    exact ⟨by rw [HR.out]; rfl, HB.out⟩
  | false =>
    have HR : Hid (t3 s0 s1 s2 fs = if s0 = b1 33 then notS (t2 s1 s2 fs) else if s0 = b1 40 ∧ s2 = b1 41 then t1 s1 else .inl 2) := Lib.hid (by unfold t3; rw [(HQ.out.2 rfl).1])
    have c0 : w1.cell? ⟨b, off, none⟩ = some (.string s0) := HL1.out.cell 0 (by simp)
    have c1 : w1.cell? ⟨b, off + 1, none⟩ = some (.string s1) := HL1.out.cell 1 (by simp)
    have c2 : w1.cell? ⟨b, off + 2, none⟩ = some (.string s2) := HL1.out.cell 2 (by simp)
    by_cases k : s0 = b1 33
    · have o33 : (s0.toList == [33]) = true := by rw [eq_const]; exact decide_eq_true k
      have hR2 := HR.out
      rw [if_pos k] at hR2
      have HR := Lib.hid hR2
      clear k hR2
      go_wp2_with fail
      refine (tells_2 _ _ _ s1 s2 v fs _ HF1.out hn HL1.out.tail).mono ?_
      rintro e w2 ⟨he, hb2⟩
      replace HB := Lib.hid (HB.out.trans (hb2.mono HB.out.size))
      clear hb2
      cases ht : t2 s1 s2 fs with
      | inr x =>
        rw [ht] at he HR
        replace he : e = .panicked [{ v := .iface 41 (.string x), recovered := false }] := he
        subst he
        clear ht
        go_wp2
        exact ⟨rfl, by rw [HR.out]; rfl, HB.out⟩
      | inl n =>
        have h2 := t2_le ht
        rw [ht] at he HR
        replace he : e = .returned (.int .i64 n) := he
        subst he
        clear ht
        have HN := Lib.hid (not_any n h2)
        clear h2
        go_wp2_with fail
        refine (HN.out _).mono ?_
        rintro e w2 ⟨rfl, rfl⟩
        go_wp2
        go_ret
        exact ⟨by rw [HR.out]; rfl, HB.out⟩
    · have o33 : (s0.toList == [33]) = false := ne_const k
      have hR2 := HR.out
      rw [if_neg k] at hR2
      clear k
      by_cases k4 : s0 = b1 40
      · have o40 : (s0.toList == [40]) = true := by rw [eq_const]; exact decide_eq_true k4
        by_cases k5 : s2 = b1 41
        · have o41 : (s2.toList == [41]) = true := by rw [eq_const]; exact decide_eq_true k5
          rw [if_pos ⟨k4, k5⟩] at hR2
          have HR := Lib.hid hR2
          clear k4 k5 hR2
          have HM := Lib.hid ((HL1.out.tail).take 1 (by omega))
          go_wp2_with fail
          refine (tells_1 _ _ _ s1 v fs _ HM.out).mono ?_
          rintro e w2 ⟨he, hb2⟩
          replace HB := Lib.hid (HB.out.trans (hb2.mono HB.out.size))
          clear hb2
          obtain ⟨m, hm⟩ : ∃ m, t1 s1 = .inl m := ⟨_, rfl⟩
          rw [hm] at he HR
          clear hm
          replace he : e = .returned (.int .i64 m) := he
          subst he
          go_wp2
          go_ret
          exact ⟨by rw [HR.out]; rfl, HB.out⟩
        · have o41 : (s2.toList == [41]) = false := ne_const k5
          rw [if_neg (fun h => k5 h.2)] at hR2
          have HR := Lib.hid hR2
          clear k4 k5 hR2
          go_wp2
          go_ret
          exact ⟨by rw [HR.out]; rfl, HB.out⟩
      · have o40 : (s0.toList == [40]) = false := ne_const k4
        rw [if_neg (fun h => k4 h.1)] at hR2
        have HR := Lib.hid hR2
        clear k4 hR2
        go_wp2
        go_ret
        exact ⟨by rw [HR.out]; rfl, HB.out⟩
set_option maxHeartbeats 2000000 in
set_option maxRecDepth 100000 in
theorem tells_4 (b off cap : Nat) (s0 s1 s2 s3 : ByteArray) (v : Value) (fs : List FactS) (w : World) (hF : InF w v fs) (hn : fs.length ≤ 140737488355328) (hL : SL w b off 4 cap [s0, s1, s2, s3]) (hz : s1.size ≤ 140737488355328 ∧ s3.size ≤ 140737488355328) :
    Calls Tryd.prog 15 #[.slice (some ⟨b, off, none⟩) 4 cap, v] w (TP (t4 s0 s1 s2 s3 fs) w) := by
  have c0 : w.cell? ⟨b, off, none⟩ = some (.string s0) := hL.cell 0 (by simp)
  have c1 : w.cell? ⟨b, off + 1, none⟩ = some (.string s1) := hL.cell 1 (by simp)
  have c2 : w.cell? ⟨b, off + 2, none⟩ = some (.string s2) := hL.cell 2 (by simp)
  have c3 : w.cell? ⟨b, off + 3, none⟩ = some (.string s3) := hL.cell 3 (by simp)
  have hc2 : 4 ≤ cap := hL.cap
  have HL := Lib.hid hL
  have HF := Lib.hid hF
  have HZ := Lib.hid hz
  clear hL hF hz
  have HR : Hid (t4 s0 s1 s2 s3 fs = if s0 = b1 33 then notS (t3 s1 s2 s3 fs) else if s0 = b1 40 ∧ s3 = b1 41 then t2 s1 s2 fs else .inl 2) := Lib.hid rfl
  by_cases k : s0 = b1 33
  · have o33 : (s0.toList == [33]) = true := by rw [eq_const]; exact decide_eq_true k
    have hR2 := HR.out
    rw [if_pos k] at hR2
    have HR := Lib.hid hR2
    clear k hR2
    go_enter Tryd.func15, Tryd.ntmps15
    go_wp2_with fail
    refine (tells_3 _ _ _ s1 s2 s3 v fs _ HF.out hn HL.out.tail HZ.out).mono ?_
    rintro e w2 ⟨he, hb2⟩
    have HB := Lib.hid hb2
    clear hb2
    cases ht : t3 s1 s2 s3 fs with
    | inr x =>
      rw [ht] at he HR
      replace he : e = .panicked [{ v := .iface 41 (.string x), recovered := false }] := he
      subst he
      clear ht
      go_wp2
      exact ⟨rfl, by rw [HR.out]; rfl, HB.out⟩
    | inl n =>
      have h2 := t3_le ht
      rw [ht] at he HR
      replace he : e = .returned (.int .i64 n) := he
      subst he
      clear ht
      have HN := Lib.hid (not_any n h2)
      clear h2
      go_wp2_with fail
      refine (HN.out _).mono ?_
      rintro e w2 ⟨rfl, rfl⟩
      go_wp2
      go_ret
      exact ⟨by rw [HR.out]; rfl, HB.out⟩
  · have o33 : (s0.toList == [33]) = false := ne_const k
    have hR2 := HR.out
    rw [if_neg k] at hR2
    clear k
    by_cases k4 : s0 = b1 40
    · have o40 : (s0.toList == [40]) = true := by rw [eq_const]; exact decide_eq_true k4
      by_cases k5 : s3 = b1 41
      · have o41 : (s3.toList == [41]) = true := by rw [eq_const]; exact decide_eq_true k5
        rw [if_pos ⟨k4, k5⟩] at hR2
        have HR := Lib.hid hR2
        clear k4 k5 hR2
        have HM := Lib.hid ((HL.out.tail).take 2 (by omega))
        go_enter Tryd.func15, Tryd.ntmps15
        go_wp2_with fail
        refine (tells_2 _ _ _ s1 s2 v fs _ HF.out hn HM.out).mono ?_
        rintro e w2 ⟨he, hb2⟩
        have HB := Lib.hid hb2
        clear hb2
        cases ht : t2 s1 s2 fs with
        | inr x =>
          rw [ht] at he HR
          replace he : e = .panicked [{ v := .iface 41 (.string x), recovered := false }] := he
          subst he
          clear ht
          go_wp2
          exact ⟨rfl, by rw [HR.out]; rfl, HB.out⟩
        | inl n =>
          rw [ht] at he HR
          replace he : e = .returned (.int .i64 n) := he
          subst he
          clear ht
          go_wp2
          go_ret
          exact ⟨by rw [HR.out]; rfl, HB.out⟩
      · have o41 : (s3.toList == [41]) = false := ne_const k5
        rw [if_neg (fun h => k5 h.2)] at hR2
        have HR := Lib.hid hR2
        clear k4 k5 hR2
        go_enter Tryd.func15, Tryd.ntmps15
        go_wp2
        go_ret
        exact ⟨by rw [HR.out]; rfl, Below.refl _ _⟩
    · have o40 : (s0.toList == [40]) = false := ne_const k4
      rw [if_neg (fun h => k4 h.1)] at hR2
      have HR := Lib.hid hR2
      clear k4 hR2
      go_enter Tryd.func15, Tryd.ntmps15
      go_wp2
      go_ret
      exact ⟨by rw [HR.out]; rfl, Below.refl _ _⟩
end Go.Proofs.YthomdgejbkcljaaDoor
