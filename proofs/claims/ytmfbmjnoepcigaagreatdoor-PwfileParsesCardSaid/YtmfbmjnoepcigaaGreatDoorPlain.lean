/- Plain words of pwfile: names, fields, places, lines. No program in sight. -/
import Derived.Test.YtmfbmjnoepcigaaGreatDoorPp
import Derived.Test.YtmfbmjnoepcigaaGreatDoorPm
import Derived.Lib.SplitLaws
namespace Go.Proofs.YtmfbmjnoepcigaaGreatDoor
open Pp (splitS okb)
open Mx (isHex isField)

abbrev Bytes := List UInt8
def isDig (c : UInt8) : Bool := decide (48 ≤ c.toNat) && decide (c.toNat ≤ 57)
def isLow (c : UInt8) : Bool := decide (97 ≤ c.toNat) && decide (c.toNat ≤ 122)
def isAln (c : UInt8) : Bool := isLow c || isDig c
def headLow : Bytes → Bool
  | [] => false
  | c :: _ => isLow c
/-- May bytes be a user's name? -/
def nameB (l : Bytes) : Bool := decide (l.length ≤ 8) && headLow l && l.all isAln
def fieldB (l : Bytes) : Bool := decide (l.length = 21) && decide (l[4]? = some 36) && (l.take 4).all isHex && (l.drop 5).all isHex
theorem fieldB_iff (l : Bytes) : fieldB l = true ↔ isField l := by
  unfold fieldB isField
  simp only [Bool.and_eq_true, decide_eq_true_eq]
  constructor
  · rintro ⟨⟨⟨h1, h2⟩, h3⟩, h4⟩
    obtain ⟨h5, h6⟩ := List.getElem?_eq_some_iff.1 h2
    refine ⟨l.take 4, l.drop 5, ?_, by simp; omega, by simp; omega, h3, h4⟩
    conv => lhs; rw [← List.take_append_drop 4 l]
    rw [List.drop_eq_getElem_cons h5, h6]
  · rintro ⟨h, t, rfl, h1, h2, h3, h4⟩
    have e1 : (h ++ 36 :: t).take 4 = h := by rw [← h1]; simp
    have e2 : (h ++ 36 :: t).drop 5 = t := by rw [show 5 = h.length + 1 by omega]; simp [List.drop_append]
    refine ⟨⟨⟨by simp; omega, ?_⟩, by rw [e1]; exact h3⟩, by rw [e2]; exact h4⟩
    rw [← h1]; simp
def passB (l : Bytes) : Bool := decide (l = []) || decide (l = [42]) || fieldB l
def placeB (l : Bytes) : Bool := decide ((splitS l).2.2.2 = 0) && (splitS l).1 && !l.contains 58

def dch (d : Nat) : UInt8 := UInt8.ofNat (48 + d)
theorem dch_nat {d : Nat} (h : d < 10) : (dch d).toNat = 48 + d := by unfold dch; rw [UInt8.toNat_ofNat']; omega
def dstep (a : Nat) (c : UInt8) : Nat := 10 * a + (c.toNat - 48)
def readD (l : Bytes) : Nat := l.foldl dstep 0
/-- The digits of a number, to base ten. -/
def decD (u : Nat) : Bytes := if h : u ≤ 9 then [dch u] else decD (u / 10) ++ [dch (u % 10)]
theorem decD_le {u : Nat} (h : u ≤ 9) : decD u = [dch u] := by rw [decD, dif_pos h]
theorem decD_gt {u : Nat} (h : ¬ u ≤ 9) : decD u = decD (u / 10) ++ [dch (u % 10)] := by rw [decD, dif_neg h]
theorem isDig_dch {d : Nat} (h : d < 10) : isDig (dch d) = true := by
  have := dch_nat h
  unfold isDig; simp; omega
theorem decD_facts : ∀ (k u : Nat), u < 10 ^ (k + 1) → (decD u).all isDig = true ∧ (decD u).length ≤ k + 1 ∧ 0 < (decD u).length ∧ readD (decD u) = u
  | 0, u, h => by
    have h9 : u ≤ 9 := by omega
    rw [decD_le h9]
    refine ⟨by simp [isDig_dch (show u < 10 by omega)], by simp, by simp, ?_⟩
    simp [readD, dstep, dch_nat (show u < 10 by omega)]
  | k + 1, u, h => by
    by_cases h9 : u ≤ 9
    · rw [decD_le h9]
      refine ⟨by simp [isDig_dch (show u < 10 by omega)], by simp, by simp, ?_⟩
      simp [readD, dstep, dch_nat (show u < 10 by omega)]
    · rw [decD_gt h9]
      obtain ⟨i1, i2, i3, i4⟩ := decD_facts k (u / 10) (by rw [Nat.pow_succ] at h; omega)
      have hm : u % 10 < 10 := Nat.mod_lt _ (by decide)
      refine ⟨by simp only [List.all_append, i1, List.all_cons, isDig_dch hm]; rfl, by simp; omega, by simp, ?_⟩
      unfold readD at i4 ⊢
      rw [List.foldl_append, i4]
      simp only [List.foldl_cons, List.foldl_nil, dstep, dch_nat hm]
      omega
theorem decD_inj {a b : Nat} (ha : a ≤ 65535) (hb : b ≤ 65535) (h : decD a = decD b) : a = b := by
  have h1 := (decD_facts 4 a (by omega)).2.2.2
  have h2 := (decD_facts 4 b (by omega)).2.2.2
  rw [← h1, ← h2, h]

/-- A user. -/
structure UserS where
  name : ByteArray
  pass : ByteArray
  id : Int
  group : Int
  home : ByteArray
  shell : ByteArray
deriving DecidableEq
def UserS.b (x : ByteArray) : Bytes := x.data.toList
def mayB (u : UserS) : Bool := nameB u.name.data.toList && passB u.pass.data.toList && (decide (0 ≤ u.id) && decide (u.id ≤ 65535)) && (decide (0 ≤ u.group) && decide (u.group ≤ 65535)) && placeB u.home.data.toList && placeB u.shell.data.toList
/-- A user's line. -/
def lineB (u : UserS) : Bytes := u.name.data.toList ++ 58 :: (u.pass.data.toList ++ 58 :: (decD u.id.toNat ++ 58 :: (decD u.group.toNat ++ 58 :: (u.home.data.toList ++ 58 :: u.shell.data.toList))))
theorem ba_eq {a b : ByteArray} (h : a.data.toList = b.data.toList) : a = b := by apply ByteArray.ext; apply Array.ext'; exact h

/-- Bytes cut at each d, behind what was read of a piece. -/
def splitD (d : UInt8) (acc : Bytes) : Bytes → List Bytes
  | [] => [acc]
  | c :: l => if c = d then acc :: splitD d [] l else splitD d (acc ++ [c]) l
theorem splitD_run {d : UInt8} : ∀ (a acc r : Bytes), d ∉ a → splitD d acc (a ++ r) = splitD d (acc ++ a) r
  | [], acc, r, _ => by simp
  | c :: a, acc, r, h => by
    have hc : c ≠ d := fun e => h (by simp [e])
    have ha : d ∉ a := fun e => h (by simp [e])
    rw [List.cons_append, splitD, if_neg hc, splitD_run a _ r ha]
    simp
theorem splitD_cut {d : UInt8} (a r : Bytes) (h : d ∉ a) : splitD d [] (a ++ d :: r) = a :: splitD d [] r := by
  rw [splitD_run a [] _ h, splitD, if_pos rfl, List.nil_append]
theorem splitD_end {d : UInt8} (a : Bytes) (h : d ∉ a) : splitD d [] a = [a] := by
  have := splitD_run a [] [] h
  rw [List.append_nil, List.nil_append] at this
  rw [this]; rfl
theorem splitD_acc {d : UInt8} : ∀ l : Bytes, ∃ h t, splitD d [] l = h :: t ∧ ∀ acc, splitD d acc l = (acc ++ h) :: t
  | [] => ⟨[], [], rfl, fun acc => by simp [splitD]⟩
  | c :: l => by
    by_cases hc : c = d
    · exact ⟨[], splitD d [] l, by simp [splitD, hc], fun acc => by simp [splitD, hc]⟩
    · obtain ⟨h, t, h1, h2⟩ := splitD_acc (d := d) l
      refine ⟨c :: h, t, ?_, fun acc => ?_⟩
      · rw [splitD, if_neg hc, h2]; simp
      · rw [splitD, if_neg hc, h2]; simp
theorem splitK_D (d : UInt8) : ∀ l : Bytes, Lib.splitK [d] 0 (l.count d) l = splitD d [] l
  | [] => rfl
  | b :: l => by
    have ih := splitK_D d l
    by_cases hb : b = d
    · subst hb
      rw [List.count_cons_self, splitD, if_pos rfl, Lib.splitK]
      have hi : Lib.index (b :: l) [b] = 0 := by rw [Lib.index]; simp [List.isPrefixOf]
      rw [hi, if_neg (by decide)]
      simp [ih]
    · rw [List.count_cons_of_ne (by simpa using hb), splitD, if_neg hb]
      obtain ⟨h, t, h1, h2⟩ := splitD_acc (d := d) l
      rw [h2]
      have hp : ([d] : Bytes).isPrefixOf (b :: l) = false := by simp [List.isPrefixOf, Ne.symm hb]
      have hix : Lib.index (b :: l) [d] = if Lib.index l [d] == -1 then -1 else Lib.index l [d] + 1 := by rw [Lib.index, hp]; simp
      cases hk : l.count d with
      | zero =>
        rw [hk, h1] at ih
        simp only [Lib.splitK, List.cons.injEq] at ih ⊢
        obtain ⟨h3, h4⟩ := ih
        rw [← h3, ← h4]; simp
      | succ k =>
        rw [hk, h1] at ih
        have hne : ¬ Lib.index l [d] = -1 := fun h => by
          have := Lib.count_miss h
          rw [Lib.count_one, hk] at this
          omega
        have hge := Lib.index_ge l [d]
        obtain ⟨j, hj⟩ : ∃ j : Nat, Lib.index l [d] = j := ⟨(Lib.index l [d]).toNat, by omega⟩
        rw [hj] at hix hne
        rw [if_neg (by simp)] at hix
        rw [Lib.splitK, hj, if_neg (by simp)] at ih
        rw [Lib.splitK, hix, if_neg (by simp; omega)]
        have e1 : ((j : Int) + 1).toNat = j + 1 := by omega
        rw [e1]
        simp only [Int.toNat_natCast, Nat.add_zero, List.length_singleton] at ih ⊢
        simp only [List.cons.injEq] at ih
        obtain ⟨h3, h4⟩ := ih
        rw [List.take_succ_cons, h3, List.drop_succ_cons, h4]
        rfl

/-! ### What stands in a user's parts -/
theorem aln_ne {c : UInt8} (h : isAln c = true) : c ≠ 58 ∧ c ≠ 10 := by
  refine ⟨fun e => ?_, fun e => ?_⟩ <;> subst e <;> revert h <;> decide
theorem hex_ne {c : UInt8} (h : isHex c = true) : c ≠ 58 ∧ c ≠ 10 := by
  refine ⟨fun e => ?_, fun e => ?_⟩ <;> subst e <;> revert h <;> decide
theorem dig_ne {c : UInt8} (h : isDig c = true) : c ≠ 58 ∧ c ≠ 10 := by
  refine ⟨fun e => ?_, fun e => ?_⟩ <;> subst e <;> revert h <;> decide
theorem name_no {l : Bytes} (h : nameB l = true) : 58 ∉ l ∧ 10 ∉ l := by
  unfold nameB at h
  simp only [Bool.and_eq_true] at h
  have ha := List.all_eq_true.1 h.2
  exact ⟨fun hm => (aln_ne (ha _ hm)).1 rfl, fun hm => (aln_ne (ha _ hm)).2 rfl⟩
theorem pass_no {l : Bytes} (h : passB l = true) : 58 ∉ l ∧ 10 ∉ l := by
  unfold passB at h
  simp only [Bool.or_eq_true, decide_eq_true_eq] at h
  rcases h with (rfl | rfl) | h
  · exact ⟨by simp, by simp⟩
  · exact ⟨by decide, by decide⟩
  · obtain ⟨x, t, rfl, _, _, h1, h2⟩ := (fieldB_iff l).1 h
    have ha := List.all_eq_true.1 h1
    have hb := List.all_eq_true.1 h2
    have key : ∀ c : UInt8, c ∈ x ++ 36 :: t → c ≠ 58 ∧ c ≠ 10 := fun c hc => by
      rcases List.mem_append.1 hc with hc | hc
      · exact hex_ne (ha _ hc)
      · rcases List.mem_cons.1 hc with rfl | hc
        · decide
        · exact hex_ne (hb _ hc)
    exact ⟨fun hm => (key _ hm).1 rfl, fun hm => (key _ hm).2 rfl⟩
theorem split_okb {l : Bytes} (h : (splitS l).2.2.2 = 0) : l.all okb = true := by
  unfold splitS at h
  split at h
  · cases h
  · split at h
    · cases h
    · split at h
      · cases h
      · rename_i h3
        cases hh : l.all okb with
        | true => rfl
        | false => exact absurd hh h3
theorem split_short {l : Bytes} (h : (splitS l).2.2.2 = 0) : l.length ≤ 128 := by
  unfold splitS at h
  split at h
  · cases h
  · split at h
    · cases h
    · rename_i h2
      exact Nat.le_of_not_lt fun hh => h2 (.inl hh)
theorem place_no {l : Bytes} (h : placeB l = true) : 58 ∉ l ∧ 10 ∉ l := by
  unfold placeB at h
  simp only [Bool.and_eq_true, decide_eq_true_eq, Bool.not_eq_true'] at h
  refine ⟨fun hm => ?_, fun hm => ?_⟩
  · have := h.2
    rw [List.contains_iff_mem.2 hm] at this
    cases this
  · have := List.all_eq_true.1 (split_okb h.1.1) _ hm
    revert this
    decide
theorem dec_no {n : Nat} (h : n ≤ 65535) : 58 ∉ decD n ∧ 10 ∉ decD n := by
  have ha := List.all_eq_true.1 (decD_facts 4 n (by omega)).1
  exact ⟨fun hm => (dig_ne (ha _ hm)).1 rfl, fun hm => (dig_ne (ha _ hm)).2 rfl⟩
structure MayP (u : UserS) : Prop where
  name : nameB u.name.data.toList = true
  pass : passB u.pass.data.toList = true
  id0 : 0 ≤ u.id
  id1 : u.id ≤ 65535
  g0 : 0 ≤ u.group
  g1 : u.group ≤ 65535
  home : placeB u.home.data.toList = true
  shell : placeB u.shell.data.toList = true
theorem mayP {u : UserS} (h : mayB u = true) : MayP u := by
  unfold mayB at h
  simp only [Bool.and_eq_true, decide_eq_true_eq] at h
  obtain ⟨⟨⟨⟨⟨h1, h2⟩, h3, h4⟩, h5, h6⟩, h7⟩, h8⟩ := h
  exact ⟨h1, h2, h3, h4, h5, h6, h7, h8⟩
theorem mayB_of {u : UserS} (h : MayP u) : mayB u = true := by
  unfold mayB
  simp only [Bool.and_eq_true, decide_eq_true_eq]
  exact ⟨⟨⟨⟨⟨h.name, h.pass⟩, h.id0, h.id1⟩, h.g0, h.g1⟩, h.home⟩, h.shell⟩
theorem line_split {u : UserS} (h : mayB u = true) : splitD 58 [] (lineB u) = [u.name.data.toList, u.pass.data.toList, decD u.id.toNat, decD u.group.toNat, u.home.data.toList, u.shell.data.toList] := by
  have m := mayP h
  have i1 : u.id.toNat ≤ 65535 := by have := m.id1; omega
  have i2 : u.group.toNat ≤ 65535 := by have := m.g1; omega
  unfold lineB
  rw [splitD_cut _ _ (name_no m.name).1, splitD_cut _ _ (pass_no m.pass).1, splitD_cut _ _ (dec_no i1).1, splitD_cut _ _ (dec_no i2).1, splitD_cut _ _ (place_no m.home).1, splitD_end _ (place_no m.shell).1]
theorem line_inj {u v : UserS} (hu : mayB u = true) (hv : mayB v = true) (h : lineB u = lineB v) : u = v := by
  have e := line_split hu
  rw [h, line_split hv] at e
  simp only [List.cons.injEq, and_true] at e
  obtain ⟨e1, e2, e3, e4, e5, e6⟩ := e
  have m := mayP hu
  have n := mayP hv
  have k1 := decD_inj (by have := n.id1; omega) (by have := m.id1; omega) e3
  have k2 := decD_inj (by have := n.g1; omega) (by have := m.g1; omega) e4
  obtain ⟨a1, a2, a3, a4, a5, a6⟩ := u
  obtain ⟨b1, b2, b3, b4, b5, b6⟩ := v
  simp only [UserS.mk.injEq]
  refine ⟨(ba_eq e1).symm, (ba_eq e2).symm, ?_, ?_, (ba_eq e5).symm, (ba_eq e6).symm⟩
  · have := m.id0; have := n.id0; simp only at *; omega
  · have := m.g0; have := n.g0; simp only at *; omega
theorem line_no10 {u : UserS} (h : mayB u = true) : 10 ∉ lineB u := by
  have m := mayP h
  have i1 : u.id.toNat ≤ 65535 := by have := m.id1; omega
  have i2 : u.group.toNat ≤ 65535 := by have := m.g1; omega
  unfold lineB
  simp only [List.mem_append, List.mem_cons, not_or]
  exact ⟨(name_no m.name).2, by decide, (pass_no m.pass).2, by decide, (dec_no i1).2, by decide, (dec_no i2).2, by decide, (place_no m.home).2, by decide, (place_no m.shell).2⟩
theorem pass_len {l : Bytes} (h : passB l = true) : l.length ≤ 21 := by
  unfold passB at h
  simp only [Bool.or_eq_true, decide_eq_true_eq] at h
  rcases h with (rfl | rfl) | h
  · decide
  · decide
  · unfold fieldB at h
    simp only [Bool.and_eq_true, decide_eq_true_eq] at h
    omega
theorem line_len {u : UserS} (h : mayB u = true) : (lineB u).length ≤ 300 := by
  have m := mayP h
  have i1 := (decD_facts 4 u.id.toNat (by have := m.id1; omega)).2.1
  have i2 := (decD_facts 4 u.group.toNat (by have := m.g1; omega)).2.1
  have h1 : u.name.data.toList.length ≤ 8 := by
    have := m.name
    unfold nameB at this
    simp only [Bool.and_eq_true, decide_eq_true_eq] at this
    exact this.1.1
  have h2 := pass_len m.pass
  have h3 : u.home.data.toList.length ≤ 128 := by
    have := m.home
    unfold placeB at this
    simp only [Bool.and_eq_true, decide_eq_true_eq] at this
    exact split_short this.1.1
  have h4 : u.shell.data.toList.length ≤ 128 := by
    have := m.shell
    unfold placeB at this
    simp only [Bool.and_eq_true, decide_eq_true_eq] at this
    exact split_short this.1.1
  unfold lineB
  simp only [List.length_append, List.length_cons] at *
  omega
end Go.Proofs.YtmfbmjnoepcigaaGreatDoor
