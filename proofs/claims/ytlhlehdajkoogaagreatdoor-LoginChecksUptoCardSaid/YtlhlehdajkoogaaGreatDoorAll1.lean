/- Part 2 of the proof: contracts of functions that the statement reaches, and plain lemmas. -/
import Derived.Test.YtlhlehdajkoogaaGreatDoorAll0
import Derived.Lib.SplitLaws
import Derived.Test.YtlhlehdajkoogaaGreatDoorShelf
import Derived.WalkKit
import Derived.WalkLawsBesides
import Derived.WalkSpells
import Derived.Outline
import Derived.Below
import Derived.Lib.Hide
import Derived.BigQuiet
import Derived.Deep.QuietTactic
import Derived.RegionTactic
import Derived.BigRegion
import Derived.OwnWalk
import Derived.Maps.AppendAt
import Derived.RangeFuncNested
import Derived.RangeFuncBound
import Derived.RangeFuncCalls
import Derived.RangeFuncLeaves
import Derived.Shelf.Abstract
import Derived.Shelf.RegionOpen
import Derived.OwnWalkIn
import Derived.TacticsInMore
import Derived.LoopNIn
import Derived.LoopIn
import Derived.Laws.BitsLemmas
import Derived.Laws.IdiomStrings
import Derived.Lib.ConvBytes
import Derived.Shelf.Strings.SlTrimAscii
import Derived.Deep.RegionHeld3
import Derived.Deep.CutRange
import Derived.Lib.AppendIntMem
import Derived.Lib.ItoaMem
import Derived.Sort.Grow
import Derived.Lib.ParseIntBCases
set_option linter.unusedSimpArgs false
set_option linter.unusedVariables false
/- Plain words of pwfile: names, fields, places, lines. No program in sight. -/
namespace Go.Proofs.Pw
open Pp (splitS okb)
open Mx (isHex isField)

abbrev Bytes := List UInt8
def isDig (c : UInt8) : Bool := decide (48 ≤ c.toNat) && decide (c.toNat ≤ 57)
def isLow (c : UInt8) : Bool := decide (97 ≤ c.toNat) && decide (c.toNat ≤ 122)
def isAln (c : UInt8) : Bool := isLow c || isDig c
def headLow : Bytes → Bool
  | [] => false
  | c :: _ => isLow c
/-- May bytes be a user's name? -/
def nameB (l : Bytes) : Bool := decide (l.length ≤ 8) && headLow l && l.all isAln
def fieldB (l : Bytes) : Bool := decide (l.length = 21) && decide (l[4]? = some 36) && (l.take 4).all isHex && (l.drop 5).all isHex
theorem fieldB_iff (l : Bytes) : fieldB l = true ↔ isField l := by
  unfold fieldB isField
  simp only [Bool.and_eq_true, decide_eq_true_eq]
  constructor
  · rintro ⟨⟨⟨h1, h2⟩, h3⟩, h4⟩
    obtain ⟨h5, h6⟩ := List.getElem?_eq_some_iff.1 h2
    refine ⟨l.take 4, l.drop 5, ?_, by simp; omega, by simp; omega, h3, h4⟩
    conv => lhs; rw [← List.take_append_drop 4 l]
    rw [List.drop_eq_getElem_cons h5, h6]
  · rintro ⟨h, t, rfl, h1, h2, h3, h4⟩
    have e1 : (h ++ 36 :: t).take 4 = h := by rw [← h1]; simp
    have e2 : (h ++ 36 :: t).drop 5 = t := by rw [show 5 = h.length + 1 by omega]; simp [List.drop_append]
    refine ⟨⟨⟨by simp; omega, ?_⟩, by rw [e1]; exact h3⟩, by rw [e2]; exact h4⟩
    rw [← h1]; simp
def passB (l : Bytes) : Bool := decide (l = []) || decide (l = [42]) || fieldB l
def placeB (l : Bytes) : Bool := decide ((splitS l).2.2.2 = 0) && (splitS l).1 && !l.contains 58

def dch (d : Nat) : UInt8 := UInt8.ofNat (48 + d)
theorem dch_nat {d : Nat} (h : d < 10) : (dch d).toNat = 48 + d := by unfold dch; rw [UInt8.toNat_ofNat']; omega
def dstep (a : Nat) (c : UInt8) : Nat := 10 * a + (c.toNat - 48)
def readD (l : Bytes) : Nat := l.foldl dstep 0
/-- The digits of a number, to base ten. -/
def decD (u : Nat) : Bytes := if h : u ≤ 9 then [dch u] else decD (u / 10) ++ [dch (u % 10)]
theorem decD_le {u : Nat} (h : u ≤ 9) : decD u = [dch u] := by rw [decD, dif_pos h]
theorem decD_gt {u : Nat} (h : ¬ u ≤ 9) : decD u = decD (u / 10) ++ [dch (u % 10)] := by rw [decD, dif_neg h]
theorem isDig_dch {d : Nat} (h : d < 10) : isDig (dch d) = true := by
  have := dch_nat h
  unfold isDig; simp; omega
theorem decD_facts : ∀ (k u : Nat), u < 10 ^ (k + 1) → (decD u).all isDig = true ∧ (decD u).length ≤ k + 1 ∧ 0 < (decD u).length ∧ readD (decD u) = u
  | 0, u, h => by
    have h9 : u ≤ 9 := by omega
    rw [decD_le h9]
    refine ⟨by simp [isDig_dch (show u < 10 by omega)], by simp, by simp, ?_⟩
    simp [readD, dstep, dch_nat (show u < 10 by omega)]
  | k + 1, u, h => by
    by_cases h9 : u ≤ 9
    · rw [decD_le h9]
      refine ⟨by simp [isDig_dch (show u < 10 by omega)], by simp, by simp, ?_⟩
      simp [readD, dstep, dch_nat (show u < 10 by omega)]
    · rw [decD_gt h9]
      obtain ⟨i1, i2, i3, i4⟩ := decD_facts k (u / 10) (by rw [Nat.pow_succ] at h; omega)
      have hm : u % 10 < 10 := Nat.mod_lt _ (by decide)
      refine ⟨by simp only [List.all_append, i1, List.all_cons, isDig_dch hm]; rfl, by simp; omega, by simp, ?_⟩
      unfold readD at i4 ⊢
      rw [List.foldl_append, i4]
      simp only [List.foldl_cons, List.foldl_nil, dstep, dch_nat hm]
      omega
theorem decD_inj {a b : Nat} (ha : a ≤ 65535) (hb : b ≤ 65535) (h : decD a = decD b) : a = b := by
  have h1 := (decD_facts 4 a (by omega)).2.2.2
  have h2 := (decD_facts 4 b (by omega)).2.2.2
  rw [← h1, ← h2, h]

/-- A user. -/
structure UserS where
  name : ByteArray
  pass : ByteArray
  id : Int
  group : Int
  home : ByteArray
  shell : ByteArray
deriving DecidableEq
def UserS.b (x : ByteArray) : Bytes := x.data.toList
def mayB (u : UserS) : Bool := nameB u.name.data.toList && passB u.pass.data.toList && (decide (0 ≤ u.id) && decide (u.id ≤ 65535)) && (decide (0 ≤ u.group) && decide (u.group ≤ 65535)) && placeB u.home.data.toList && placeB u.shell.data.toList
/-- A user's line. -/
def lineB (u : UserS) : Bytes := u.name.data.toList ++ 58 :: (u.pass.data.toList ++ 58 :: (decD u.id.toNat ++ 58 :: (decD u.group.toNat ++ 58 :: (u.home.data.toList ++ 58 :: u.shell.data.toList))))
theorem ba_eq {a b : ByteArray} (h : a.data.toList = b.data.toList) : a = b := by apply ByteArray.ext; apply Array.ext'; exact h

/-- Bytes cut at each d, behind what was read of a piece. -/
def splitD (d : UInt8) (acc : Bytes) : Bytes → List Bytes
  | [] => [acc]
  | c :: l => if c = d then acc :: splitD d [] l else splitD d (acc ++ [c]) l
theorem splitD_run {d : UInt8} : ∀ (a acc r : Bytes), d ∉ a → splitD d acc (a ++ r) = splitD d (acc ++ a) r
  | [], acc, r, _ => by simp
  | c :: a, acc, r, h => by
    have hc : c ≠ d := fun e => h (by simp [e])
    have ha : d ∉ a := fun e => h (by simp [e])
    rw [List.cons_append, splitD, if_neg hc, splitD_run a _ r ha]
    simp
theorem splitD_cut {d : UInt8} (a r : Bytes) (h : d ∉ a) : splitD d [] (a ++ d :: r) = a :: splitD d [] r := by
  rw [splitD_run a [] _ h, splitD, if_pos rfl, List.nil_append]
theorem splitD_end {d : UInt8} (a : Bytes) (h : d ∉ a) : splitD d [] a = [a] := by
  have := splitD_run a [] [] h
  rw [List.append_nil, List.nil_append] at this
  rw [this]; rfl
theorem splitD_acc {d : UInt8} : ∀ l : Bytes, ∃ h t, splitD d [] l = h :: t ∧ ∀ acc, splitD d acc l = (acc ++ h) :: t
  | [] => ⟨[], [], rfl, fun acc => by simp [splitD]⟩
  | c :: l => by
    by_cases hc : c = d
    · exact ⟨[], splitD d [] l, by simp [splitD, hc], fun acc => by simp [splitD, hc]⟩
    · obtain ⟨h, t, h1, h2⟩ := splitD_acc (d := d) l
      refine ⟨c :: h, t, ?_, fun acc => ?_⟩
      · rw [splitD, if_neg hc, h2]; simp
      · rw [splitD, if_neg hc, h2]; simp
theorem splitK_D (d : UInt8) : ∀ l : Bytes, Lib.splitK [d] 0 (l.count d) l = splitD d [] l
  | [] => rfl
  | b :: l => by
    have ih := splitK_D d l
    by_cases hb : b = d
    · subst hb
      rw [List.count_cons_self, splitD, if_pos rfl, Lib.splitK]
      have hi : Lib.index (b :: l) [b] = 0 := by rw [Lib.index]; simp [List.isPrefixOf]
      rw [hi, if_neg (by decide)]
      simp [ih]
    · rw [List.count_cons_of_ne (by simpa using hb), splitD, if_neg hb]
      obtain ⟨h, t, h1, h2⟩ := splitD_acc (d := d) l
      rw [h2]
      have hp : ([d] : Bytes).isPrefixOf (b :: l) = false := by simp [List.isPrefixOf, Ne.symm hb]
      have hix : Lib.index (b :: l) [d] = if Lib.index l [d] == -1 then -1 else Lib.index l [d] + 1 := by rw [Lib.index, hp]; simp
      cases hk : l.count d with
      | zero =>
        rw [hk, h1] at ih
        simp only [Lib.splitK, List.cons.injEq] at ih ⊢
        obtain ⟨h3, h4⟩ := ih
        rw [← h3, ← h4]; simp
      | succ k =>
        rw [hk, h1] at ih
        have hne : ¬ Lib.index l [d] = -1 := fun h => by
          have := Lib.count_miss h
          rw [Lib.count_one, hk] at this
          omega
        have hge := Lib.index_ge l [d]
        obtain ⟨j, hj⟩ : ∃ j : Nat, Lib.index l [d] = j := ⟨(Lib.index l [d]).toNat, by omega⟩
        rw [hj] at hix hne
        rw [if_neg (by simp)] at hix
        rw [Lib.splitK, hj, if_neg (by simp)] at ih
        rw [Lib.splitK, hix, if_neg (by simp; omega)]
        have e1 : ((j : Int) + 1).toNat = j + 1 := by omega
        rw [e1]
        simp only [Int.toNat_natCast, Nat.add_zero, List.length_singleton] at ih ⊢
        simp only [List.cons.injEq] at ih
        obtain ⟨h3, h4⟩ := ih
        rw [List.take_succ_cons, h3, List.drop_succ_cons, h4]
        rfl

/-! ### What stands in a user's parts -/
theorem aln_ne {c : UInt8} (h : isAln c = true) : c ≠ 58 ∧ c ≠ 10 := by
  refine ⟨fun e => ?_, fun e => ?_⟩ <;> subst e <;> revert h <;> decide
theorem hex_ne {c : UInt8} (h : isHex c = true) : c ≠ 58 ∧ c ≠ 10 := by
  refine ⟨fun e => ?_, fun e => ?_⟩ <;> subst e <;> revert h <;> decide
theorem dig_ne {c : UInt8} (h : isDig c = true) : c ≠ 58 ∧ c ≠ 10 := by
  refine ⟨fun e => ?_, fun e => ?_⟩ <;> subst e <;> revert h <;> decide
theorem name_no {l : Bytes} (h : nameB l = true) : 58 ∉ l ∧ 10 ∉ l := by
  unfold nameB at h
  simp only [Bool.and_eq_true] at h
  have ha := List.all_eq_true.1 h.2
  exact ⟨fun hm => (aln_ne (ha _ hm)).1 rfl, fun hm => (aln_ne (ha _ hm)).2 rfl⟩
theorem pass_no {l : Bytes} (h : passB l = true) : 58 ∉ l ∧ 10 ∉ l := by
  unfold passB at h
  simp only [Bool.or_eq_true, decide_eq_true_eq] at h
  rcases h with (rfl | rfl) | h
  · exact ⟨by simp, by simp⟩
  · exact ⟨by decide, by decide⟩
  · obtain ⟨x, t, rfl, _, _, h1, h2⟩ := (fieldB_iff l).1 h
    have ha := List.all_eq_true.1 h1
    have hb := List.all_eq_true.1 h2
    have key : ∀ c : UInt8, c ∈ x ++ 36 :: t → c ≠ 58 ∧ c ≠ 10 := fun c hc => by
      rcases List.mem_append.1 hc with hc | hc
      · exact hex_ne (ha _ hc)
      · rcases List.mem_cons.1 hc with rfl | hc
        · decide
        · exact hex_ne (hb _ hc)
    exact ⟨fun hm => (key _ hm).1 rfl, fun hm => (key _ hm).2 rfl⟩
theorem split_okb {l : Bytes} (h : (splitS l).2.2.2 = 0) : l.all okb = true := by
  unfold splitS at h
  split at h
  · cases h
  · split at h
    · cases h
    · split at h
      · cases h
      · rename_i h3
        cases hh : l.all okb with
        | true => rfl
        | false => exact absurd hh h3
theorem split_short {l : Bytes} (h : (splitS l).2.2.2 = 0) : l.length ≤ 128 := by
  unfold splitS at h
  split at h
  · cases h
  · split at h
    · cases h
    · rename_i h2
      exact Nat.le_of_not_lt fun hh => h2 (.inl hh)
theorem place_no {l : Bytes} (h : placeB l = true) : 58 ∉ l ∧ 10 ∉ l := by
  unfold placeB at h
  simp only [Bool.and_eq_true, decide_eq_true_eq, Bool.not_eq_true'] at h
  refine ⟨fun hm => ?_, fun hm => ?_⟩
  · have := h.2
    rw [List.contains_iff_mem.2 hm] at this
    cases this
  · have := List.all_eq_true.1 (split_okb h.1.1) _ hm
    revert this
    decide
theorem dec_no {n : Nat} (h : n ≤ 65535) : 58 ∉ decD n ∧ 10 ∉ decD n := by
  have ha := List.all_eq_true.1 (decD_facts 4 n (by omega)).1
  exact ⟨fun hm => (dig_ne (ha _ hm)).1 rfl, fun hm => (dig_ne (ha _ hm)).2 rfl⟩
structure MayP (u : UserS) : Prop where
  name : nameB u.name.data.toList = true
  pass : passB u.pass.data.toList = true
  id0 : 0 ≤ u.id
  id1 : u.id ≤ 65535
  g0 : 0 ≤ u.group
  g1 : u.group ≤ 65535
  home : placeB u.home.data.toList = true
  shell : placeB u.shell.data.toList = true
theorem mayP {u : UserS} (h : mayB u = true) : MayP u := by
  unfold mayB at h
  simp only [Bool.and_eq_true, decide_eq_true_eq] at h
  obtain ⟨⟨⟨⟨⟨h1, h2⟩, h3, h4⟩, h5, h6⟩, h7⟩, h8⟩ := h
  exact ⟨h1, h2, h3, h4, h5, h6, h7, h8⟩
theorem mayB_of {u : UserS} (h : MayP u) : mayB u = true := by
  unfold mayB
  simp only [Bool.and_eq_true, decide_eq_true_eq]
  exact ⟨⟨⟨⟨⟨h.name, h.pass⟩, h.id0, h.id1⟩, h.g0, h.g1⟩, h.home⟩, h.shell⟩
theorem line_split {u : UserS} (h : mayB u = true) : splitD 58 [] (lineB u) = [u.name.data.toList, u.pass.data.toList, decD u.id.toNat, decD u.group.toNat, u.home.data.toList, u.shell.data.toList] := by
  have m := mayP h
  have i1 : u.id.toNat ≤ 65535 := by have := m.id1; omega
  have i2 : u.group.toNat ≤ 65535 := by have := m.g1; omega
  unfold lineB
  rw [splitD_cut _ _ (name_no m.name).1, splitD_cut _ _ (pass_no m.pass).1, splitD_cut _ _ (dec_no i1).1, splitD_cut _ _ (dec_no i2).1, splitD_cut _ _ (place_no m.home).1, splitD_end _ (place_no m.shell).1]
theorem line_inj {u v : UserS} (hu : mayB u = true) (hv : mayB v = true) (h : lineB u = lineB v) : u = v := by
  have e := line_split hu
  rw [h, line_split hv] at e
  simp only [List.cons.injEq, and_true] at e
  obtain ⟨e1, e2, e3, e4, e5, e6⟩ := e
  have m := mayP hu
  have n := mayP hv
  have k1 := decD_inj (by have := n.id1; omega) (by have := m.id1; omega) e3
  have k2 := decD_inj (by have := n.g1; omega) (by have := m.g1; omega) e4
  obtain ⟨a1, a2, a3, a4, a5, a6⟩ := u
  obtain ⟨b1, b2, b3, b4, b5, b6⟩ := v
  simp only [UserS.mk.injEq]
  refine ⟨(ba_eq e1).symm, (ba_eq e2).symm, ?_, ?_, (ba_eq e5).symm, (ba_eq e6).symm⟩
  · have := m.id0; have := n.id0; simp only at *; omega
  · have := m.g0; have := n.g0; simp only at *; omega
theorem line_no10 {u : UserS} (h : mayB u = true) : 10 ∉ lineB u := by
  have m := mayP h
  have i1 : u.id.toNat ≤ 65535 := by have := m.id1; omega
  have i2 : u.group.toNat ≤ 65535 := by have := m.g1; omega
  unfold lineB
  simp only [List.mem_append, List.mem_cons, not_or]
  exact ⟨(name_no m.name).2, by decide, (pass_no m.pass).2, by decide, (dec_no i1).2, by decide, (dec_no i2).2, by decide, (place_no m.home).2, by decide, (place_no m.shell).2⟩
theorem pass_len {l : Bytes} (h : passB l = true) : l.length ≤ 21 := by
  unfold passB at h
  simp only [Bool.or_eq_true, decide_eq_true_eq] at h
  rcases h with (rfl | rfl) | h
  · decide
  · decide
  · unfold fieldB at h
    simp only [Bool.and_eq_true, decide_eq_true_eq] at h
    omega
theorem line_len {u : UserS} (h : mayB u = true) : (lineB u).length ≤ 300 := by
  have m := mayP h
  have i1 := (decD_facts 4 u.id.toNat (by have := m.id1; omega)).2.1
  have i2 := (decD_facts 4 u.group.toNat (by have := m.g1; omega)).2.1
  have h1 : u.name.data.toList.length ≤ 8 := by
    have := m.name
    unfold nameB at this
    simp only [Bool.and_eq_true, decide_eq_true_eq] at this
    exact this.1.1
  have h2 := pass_len m.pass
  have h3 : u.home.data.toList.length ≤ 128 := by
    have := m.home
    unfold placeB at this
    simp only [Bool.and_eq_true, decide_eq_true_eq] at this
    exact split_short this.1.1
  have h4 : u.shell.data.toList.length ≤ 128 := by
    have := m.shell
    unfold placeB at this
    simp only [Bool.and_eq_true, decide_eq_true_eq] at this
    exact split_short this.1.1
  unfold lineB
  simp only [List.length_append, List.length_cons] at *
  omega
end Go.Proofs.Pw
/- Cut at one byte. -/
namespace Go.Proofs.Pw
open Go.RowKit

theorem idx_cases : ∀ (l : Bytes) (c : UInt8), Lib.indexByte l c = -1 ∨ ∃ i : Nat, Lib.indexByte l c = i
  | [], _ => .inl rfl
  | b :: l, c => by
    unfold Lib.indexByte
    split
    · exact .inr ⟨0, rfl⟩
    · split
      · exact .inl rfl
      · rcases idx_cases l c with h | ⟨i, h⟩
        · rename_i h2; rw [h] at h2; exact absurd rfl h2
        · exact .inr ⟨i + 1, by rw [h]; rfl⟩
theorem at_d {d : UInt8} {l : Bytes} {i : Nat} (h : Lib.indexByte l d = i) : i < l.length ∧ d ∉ l.take i ∧ l = l.take i ++ d :: l.drop (i + 1) := by
  obtain ⟨h1, h2⟩ := Lib.indexByte_some h
  obtain ⟨hi, h3⟩ := List.getElem?_eq_some_iff.1 h1
  refine ⟨hi, fun hm => ?_, ?_⟩
  · obtain ⟨k, hk, he⟩ := List.getElem_of_mem hm
    rw [List.getElem_take] at he
    have hk' : k < i := by simp at hk; omega
    exact h2 k hk' (by rw [List.getElem?_eq_getElem (by omega), he])
  · conv => lhs; rw [← List.take_append_drop i l]
    rw [List.drop_eq_getElem_cons hi, h3]
theorem no_d {d : UInt8} {l : Bytes} (h : Lib.indexByte l d = -1) : d ∉ l := fun hm => by
  obtain ⟨k, hk, he⟩ := List.getElem_of_mem hm
  exact Lib.indexByte_none h k (by rw [List.getElem?_eq_getElem hk, he])
theorem ex_data (s : ByteArray) (a b : Nat) : (s.extract a b).data.toList = (s.data.toList.take b).drop a := by
  rw [ByteArray.data_extract, Array.toList_extract, List.extract_eq_take_drop, List.drop_take]
theorem sz (s : ByteArray) : s.data.toList.length = s.size := by simp
theorem toList_data (s : ByteArray) : s.toList = s.data.toList := ByteArray.toList_eq s

set_option maxHeartbeats 1000000 in
theorem cutl_some (d : UInt8) (s : ByteArray) (w : World) (i : Nat) (hi : Lib.indexByte s.data.toList d = i) (hs : s.size ≤ 140737488351232) :
    Calls Tryz.prog 192 #[.string s, .string ⟨#[d]⟩] w fun e w' => e = .returned (.tuple #[.string (s.extract 0 i), .string (s.extract (i + 1) s.size), .bool true]) ∧ ∃ n, w' = w.drewN n := by
  have hs1 : (s.size : Int) ≤ 140737488351232 := by omega
  have h1 := (at_d hi).1
  rw [sz] at h1
  have h1i : (i : Int) + 1 ≤ s.size := by omega
  have h1j : (i : Int) ≤ s.size := by omega
  have h1k : (0 : Int) ≤ (i : Int) + 1 := by omega
  have h1l : ((i : Int) + 1).toNat = i + 1 := by omega
  have HI := Lib.hid hi
  clear hi
  go_enter Tryz.func192, Tryz.ntmps192
  go_wp2_with fail
  refine (Tryz.stringslite_Index_one s d _).mono ?_
  rintro e w' ⟨rfl, rfl⟩
  rw [HI.out]
  go_wp2_with fail
  go_region
  go_wp2
  exact bodyPost_ret (v := .tuple #[.string (s.extract 0 i), .string (s.extract (i + 1) s.size), .bool true]) (by simp [results, Tryz.results66, go_sem]) rfl ⟨rfl, 1, rfl⟩
set_option maxHeartbeats 1000000 in
theorem cutl_none (d : UInt8) (s : ByteArray) (w : World) (hi : Lib.indexByte s.data.toList d = -1) :
    Calls Tryz.prog 192 #[.string s, .string ⟨#[d]⟩] w fun e w' => e = .returned (.tuple #[.string s, .string ⟨#[]⟩, .bool false]) ∧ ∃ n, w' = w.drewN n := by
  have HI := Lib.hid hi
  clear hi
  go_enter Tryz.func192, Tryz.ntmps192
  go_wp2_with fail
  refine (Tryz.stringslite_Index_one s d _).mono ?_
  rintro e w' ⟨rfl, rfl⟩
  rw [HI.out]
  go_wp2
  exact bodyPost_ret (v := .tuple #[.string s, .string ⟨#[]⟩, .bool false]) (by simp [results, Tryz.results66, go_sem]) rfl ⟨rfl, 0, rfl⟩
theorem cut_some (d : UInt8) (s : ByteArray) (w : World) (i : Nat) (hi : Lib.indexByte s.data.toList d = i) (hs : s.size ≤ 140737488351232) :
    Calls Tryz.prog 167 #[.string s, .string ⟨#[d]⟩] w fun e w' => e = .returned (.tuple #[.string (s.extract 0 i), .string (s.extract (i + 1) s.size), .bool true]) ∧ ∃ n, w' = w.drewN n := by
  have HI := Lib.hid hi
  clear hi
  go_enter Tryz.func167, Tryz.ntmps167
  go_wp2_with fail
  refine (cutl_some d s _ i HI.out hs).mono ?_
  rintro e w' ⟨rfl, n, rfl⟩
  go_wp2
  exact bodyPost_ret (v := .tuple #[.string (s.extract 0 i), .string (s.extract (i + 1) s.size), .bool true]) (by simp [results, Tryz.results18, go_sem]) rfl ⟨rfl, n, rfl⟩
theorem cut_none (d : UInt8) (s : ByteArray) (w : World) (hi : Lib.indexByte s.data.toList d = -1) :
    Calls Tryz.prog 167 #[.string s, .string ⟨#[d]⟩] w fun e w' => e = .returned (.tuple #[.string s, .string ⟨#[]⟩, .bool false]) ∧ ∃ n, w' = w.drewN n := by
  have HI := Lib.hid hi
  clear hi
  go_enter Tryz.func167, Tryz.ntmps167
  go_wp2_with fail
  refine (cutl_none d s _ HI.out).mono ?_
  rintro e w' ⟨rfl, n, rfl⟩
  go_wp2
  exact bodyPost_ret (v := .tuple #[.string s, .string ⟨#[]⟩, .bool false]) (by simp [results, Tryz.results18, go_sem]) rfl ⟨rfl, n, rfl⟩
def CutPost (d : UInt8) (s : ByteArray) (w : World) (e : Ending) (w' : World) : Prop :=
  ∃ (a b : ByteArray) (ok : Bool), e = .returned (.tuple #[.string a, .string b, .bool ok]) ∧ (∃ k, w' = w.drewN k) ∧ a.size ≤ s.size ∧ b.size ≤ s.size ∧
    ((ok = true ∧ s.data.toList = a.data.toList ++ d :: b.data.toList ∧ d ∉ a.data.toList) ∨ (ok = false ∧ d ∉ s.data.toList ∧ a = s ∧ b = ⟨#[]⟩))
theorem cut_any (d : UInt8) (s : ByteArray) (w : World) (hs : s.size ≤ 140737488351232) : Calls Tryz.prog 167 #[.string s, .string ⟨#[d]⟩] w (CutPost d s w) := by
  rcases idx_cases s.data.toList d with hi | ⟨i, hi⟩
  · refine (cut_none d s w hi).mono ?_
    rintro e w' ⟨rfl, hk⟩
    exact ⟨s, ⟨#[]⟩, false, rfl, hk, Nat.le_refl _, Nat.zero_le _, .inr ⟨rfl, no_d hi, rfl, rfl⟩⟩
  · refine (cut_some d s w i hi hs).mono ?_
    rintro e w' ⟨rfl, hk⟩
    obtain ⟨h1, h2, h3⟩ := at_d hi
    exact ⟨_, _, true, rfl, hk, by rw [ByteArray.size_extract]; exact Nat.le_trans (Nat.sub_le _ _) (Nat.min_le_right _ _), by rw [ByteArray.size_extract]; exact Nat.le_trans (Nat.sub_le _ _) (Nat.min_le_right _ _), .inl ⟨rfl, by
        rw [ex_data, ex_data, List.drop_zero, show s.data.toList.take s.size = s.data.toList from List.take_of_length_le (by rw [sz]; exact Nat.le_refl _)]; exact h3, by rw [ex_data, List.drop_zero]; exact h2⟩⟩
end Go.Proofs.Pw
/- Users, as they lie; who has a name, who a number. -/
namespace Go.Proofs.Pw
open Go.RowKit

theorem heap_cell {w : World} {b : Nat} {C : Array Value} {T : TypeId} {f : Nat × Nat} (h : w.heap[b]? = some (.cells C T f)) (i : Nat) : w.cell? ⟨b, i, none⟩ = C[i]? := by simp [World.cell?, h]
theorem at_new (w : World) (o : Obj) : (w.alloc o).heap[w.heap.size]? = some o := by
  show (w.heap.push o)[w.heap.size]? = some o
  simp
theorem eq_text (a b : ByteArray) : (a.toList == b.toList) = decide (a = b) := by
  rw [toList_data, toList_data]
  by_cases h : a = b
  · subst h; simp
  · rw [decide_eq_false h]
    exact beq_eq_false_iff_ne.2 fun e => h (ba_eq e)
def userC (f : UserS) : Array Value := #[.string f.name, .string f.pass, .int .i64 f.id, .int .i64 f.group, .string f.home, .string f.shell]
/-- Users, as they lie. -/
def InU (w : World) (v : Value) (fs : List UserS) : Prop :=
  ∃ a cap, v = .slice a fs.length cap ∧ ∀ j (h : j < fs.length), ∃ b off, a = some ⟨b, off, none⟩ ∧ ∀ i, i < 6 → w.cell? ⟨b, off + j * 6 + i, none⟩ = (userC fs[j])[i]?
theorem InU.below {w w' : World} {v : Value} {fs : List UserS} (h : InU w v fs) (hb : Below w.heap.size w w') : InU w' v fs := by
  obtain ⟨a, cap, rfl, hc⟩ := h
  refine ⟨a, cap, rfl, fun j hj => ?_⟩
  obtain ⟨b, off, ha, h⟩ := hc j hj
  refine ⟨b, off, ha, fun i hi => ?_⟩
  have h1 := h i hi
  have h2 : i < (userC fs[j]).size := hi
  rw [Array.getElem?_eq_getElem h2] at h1 ⊢
  rw [hb.cell (p := ⟨b, off + j * 6 + i, none⟩) (World.block_lt_of_cell? w _ h1)]
  exact h1
/-- The cells of one user. -/
structure UC (w : World) (b o : Nat) (f : UserS) : Prop where
  g0 : w.cell? ⟨b, o, none⟩ = some (.string f.name)
  g1 : w.cell? ⟨b, o + 1, none⟩ = some (.string f.pass)
  g2 : w.cell? ⟨b, o + 2, none⟩ = some (.int .i64 f.id)
  g3 : w.cell? ⟨b, o + 3, none⟩ = some (.int .i64 f.group)
  g4 : w.cell? ⟨b, o + 4, none⟩ = some (.string f.home)
  g5 : w.cell? ⟨b, o + 5, none⟩ = some (.string f.shell)
theorem InU.uc {w w' : World} {a : Option Addr} {cap : Nat} {fs : List UserS} (h : InU w (.slice a fs.length cap) fs) (hb : Below w.heap.size w w') {k : Nat} (hk : k < fs.length) : ∃ b off, a = some ⟨b, off, none⟩ ∧ UC w' b (off + k * 6) fs[k] := by
  obtain ⟨a', cap', hv, hc⟩ := h.below hb
  obtain ⟨rfl, rfl⟩ : a = a' ∧ cap = cap' := by simp at hv; exact ⟨hv.1, hv.2⟩
  obtain ⟨b, off, ha, h⟩ := hc k hk
  exact ⟨b, off, ha, h 0 (by omega), h 1 (by omega), h 2 (by omega), h 3 (by omega), h 4 (by omega), h 5 (by omega)⟩
/-- Where the first user stands of whom p is true. -/
def findU (p : UserS → Bool) : List UserS → Int → Int
  | [], _ => -1
  | f :: l, i => if p f = true then i else findU p l (i + 1)
theorem sameat_any (f : UserS) (xb : Nat) (x : ByteArray) (w : World) (hx : w.cell? ⟨xb, 0, none⟩ = some (.string x)) :
    Calls Tryz.prog 169 #[.agg (userC f), .pointer (some ⟨xb, 0, none⟩)] w fun e w' => e = .returned (.bool (decide (f.name = x))) ∧ Below w.heap.size w w' := by
  unfold userC
  have hx1 : ∀ o, (w.alloc o).cell? ⟨xb, 0, none⟩ = some (.string x) := fun o => by
    rw [((Below.refl w.heap.size w).alloc (Nat.le_refl _) o).cell (p := ⟨xb, 0, none⟩) (World.block_lt_of_cell? w ⟨xb, 0, none⟩ hx)]; exact hx
  have he : (f.name.toList == x.toList) = decide (f.name = x) := eq_text _ _
  obtain ⟨q, hq⟩ : ∃ q, decide (f.name = x) = q := ⟨_, rfl⟩
  rw [hq] at he ⊢
  clear hq
  go_enter Tryz.func169, Tryz.ntmps169
  go_wp2
  go_ret
  exact ⟨rfl, (Below.refl _ _).alloc (Nat.le_refl _) _⟩
theorem sameof_any (f : UserS) (xb : Nat) (x : Int) (w : World) (hx : w.cell? ⟨xb, 0, none⟩ = some (.int .i64 x)) :
    Calls Tryz.prog 140 #[.agg (userC f), .pointer (some ⟨xb, 0, none⟩)] w fun e w' => e = .returned (.bool (decide (f.id = x))) ∧ Below w.heap.size w w' := by
  unfold userC
  have hx1 : ∀ o, (w.alloc o).cell? ⟨xb, 0, none⟩ = some (.int .i64 x) := fun o => by
    rw [((Below.refl w.heap.size w).alloc (Nat.le_refl _) o).cell (p := ⟨xb, 0, none⟩) (World.block_lt_of_cell? w ⟨xb, 0, none⟩ hx)]; exact hx
  have he : (f.id == x) = decide (f.id = x) := by
    by_cases h : f.id = x
    · rw [decide_eq_true h, h]; simp
    · rw [decide_eq_false h]; simpa using h
  obtain ⟨q, hq⟩ : ∃ q, decide (f.id = x) = q := ⟨_, rfl⟩
  rw [hq] at he ⊢
  clear hq
  go_enter Tryz.func140, Tryz.ntmps140
  go_wp2
  go_ret
  exact ⟨rfl, (Below.refl _ _).alloc (Nat.le_refl _) _⟩
set_option maxHeartbeats 1000000 in
theorem indexat_any (v : Value) (fs : List UserS) (xb : Nat) (x : ByteArray) (w : World) (hF : InU w v fs) (hn : fs.length ≤ 140737488355328) (hx : w.cell? ⟨xb, 0, none⟩ = some (.string x)) :
    Calls Tryz.prog 139 #[v, .func (.func 169) #[] #[.pointer (some ⟨xb, 0, none⟩)]] w fun e w' => e = .returned (.int .i64 (findU (fun f => decide (f.name = x)) fs 0)) ∧ Below w.heap.size w w' := by
  obtain ⟨a, cap, rfl, hc⟩ := hF
  have HC := Lib.hid hc
  have HX := Lib.hid hx
  clear hc hx
  have hn1 : (fs.length : Int) ≤ 140737488355328 := by omega
  clear hn
  obtain ⟨P, hP⟩ : ∃ P : UserS → Bool, (fun f => decide (f.name = x)) = P := ⟨_, rfl⟩
  rw [hP]
  have HP : Hid (∀ f : UserS, decide (f.name = x) = P f) := Lib.hid (fun f => by rw [← hP])
  clear hP
  go_enter Tryz.func139, Tryz.ntmps139
  go_wp2
  go_loopw [5, 8] (fun v5 v8 wr => ∃ k : Nat, k ≤ fs.length ∧ v8 = .int .i64 k ∧ Hid (Below w.heap.size w wr ∧ findU P (fs.drop k) k = findU P fs 0)) (fun v5 v8 _ => fs.length - (intOf v8).toNat)
  case atStart => exact ⟨0, Nat.zero_le _, rfl, Lib.hid ⟨Below.refl _ _, rfl⟩⟩
  case round =>
    obtain ⟨k, hk, rfl, HH⟩ := hrel
    by_cases hlt : k < fs.length
    · have hlt1 : (k : Int) < fs.length := by omega
      obtain ⟨b, off, rfl, hcc⟩ := HC.out k hlt
      have hd : fs.drop k = fs[k] :: fs.drop (k + 1) := List.drop_eq_getElem_cons hlt
      generalize fs[k] = f at *
      have hcw : ∀ i, i < 6 → wr.cell? ⟨b, off + k * 6 + i, none⟩ = (userC f)[i]? := fun i hi => by
        have h1 := hcc i hi
        have h2 : i < (userC f).size := hi
        rw [Array.getElem?_eq_getElem h2] at h1 ⊢
        rw [HH.out.1.cell (p := ⟨b, off + k * 6 + i, none⟩) (World.block_lt_of_cell? w _ h1)]
        exact h1
      have g0 : wr.cell? ⟨b, off + k * 6, none⟩ = some (.string f.name) := hcw 0 (by omega)
      have g1 : wr.cell? ⟨b, off + k * 6 + 1, none⟩ = some (.string f.pass) := hcw 1 (by omega)
      have g2 : wr.cell? ⟨b, off + k * 6 + 2, none⟩ = some (.int .i64 f.id) := hcw 2 (by omega)
      have g3 : wr.cell? ⟨b, off + k * 6 + 3, none⟩ = some (.int .i64 f.group) := hcw 3 (by omega)
      have g4 : wr.cell? ⟨b, off + k * 6 + 4, none⟩ = some (.string f.home) := hcw 4 (by omega)
      have g5 : wr.cell? ⟨b, off + k * 6 + 5, none⟩ = some (.string f.shell) := hcw 5 (by omega)
      have HS : Hid ((if P f = true then (k : Int) else findU P (fs.drop (k + 1)) ((k + 1 : Nat) : Int)) = findU P fs 0) := Lib.hid (by rw [← HH.out.2, hd]; rfl)
      clear hcc hcw hd
      have HA := Lib.hid (sameat_any f xb x wr (by rw [HH.out.1.cell (p := ⟨xb, 0, none⟩) (World.block_lt_of_cell? w _ HX.out)]; exact HX.out))
      unfold userC at HA
      rw [HP.out] at HA
      cases hp : P f with
      | true =>
        rw [hp] at HA
        have HR : Hid (findU P fs 0 = k) := Lib.hid (by rw [← HS.out, if_pos hp])
        clear hp HS
        go_wp2_with fail
        refine HA.out.mono ?_
        rintro e w1 ⟨rfl, hb⟩
        have HB := Lib.hid (HH.out.1.trans (hb.mono HH.out.1.size))
        clear hb
        go_wp2
        go_ret
        exact ⟨by rw [HR.out]; rfl, HB.out⟩
      | false =>
        rw [hp] at HA
        have HR : Hid (findU P (fs.drop (k + 1)) ((k + 1 : Nat) : Int) = findU P fs 0) := Lib.hid (by rw [← HS.out, if_neg (by rw [hp]; decide)])
        clear hp HS
        go_wp2_with fail
        refine HA.out.mono ?_
        rintro e w1 ⟨rfl, hb⟩
        have HB := Lib.hid (HH.out.1.trans (hb.mono HH.out.1.size))
        clear hb
        go_wp2
        go_roundw
        case rel => exact ⟨k + 1, by omega, by go_num, Lib.hid ⟨HB.out, HR.out⟩⟩
        case measure => simp [intOf]; omega
    · have hlt1 : ¬ (k : Int) < fs.length := by omega
      have HR : Hid (findU P fs 0 = -1) := Lib.hid (by rw [← HH.out.2, List.drop_of_length_le (by omega)]; rfl)
      go_wp2
      go_ret
      exact ⟨by rw [HR.out]; rfl, HH.out.1⟩
set_option maxHeartbeats 1000000 in
theorem indexof_any (v : Value) (fs : List UserS) (xb : Nat) (x : Int) (w : World) (hF : InU w v fs) (hn : fs.length ≤ 140737488355328) (hx : w.cell? ⟨xb, 0, none⟩ = some (.int .i64 x)) :
    Calls Tryz.prog 139 #[v, .func (.func 140) #[] #[.pointer (some ⟨xb, 0, none⟩)]] w fun e w' => e = .returned (.int .i64 (findU (fun f => decide (f.id = x)) fs 0)) ∧ Below w.heap.size w w' := by
  obtain ⟨a, cap, rfl, hc⟩ := hF
  have HC := Lib.hid hc
  have HX := Lib.hid hx
  clear hc hx
  have hn1 : (fs.length : Int) ≤ 140737488355328 := by omega
  clear hn
  obtain ⟨P, hP⟩ : ∃ P : UserS → Bool, (fun f => decide (f.id = x)) = P := ⟨_, rfl⟩
  rw [hP]
  have HP : Hid (∀ f : UserS, decide (f.id = x) = P f) := Lib.hid (fun f => by rw [← hP])
  clear hP
  go_enter Tryz.func139, Tryz.ntmps139
  go_wp2
  go_loopw [5, 8] (fun v5 v8 wr => ∃ k : Nat, k ≤ fs.length ∧ v8 = .int .i64 k ∧ Hid (Below w.heap.size w wr ∧ findU P (fs.drop k) k = findU P fs 0)) (fun v5 v8 _ => fs.length - (intOf v8).toNat)
  case atStart => exact ⟨0, Nat.zero_le _, rfl, Lib.hid ⟨Below.refl _ _, rfl⟩⟩
  case round =>
    obtain ⟨k, hk, rfl, HH⟩ := hrel
    by_cases hlt : k < fs.length
    · have hlt1 : (k : Int) < fs.length := by omega
      obtain ⟨b, off, rfl, hcc⟩ := HC.out k hlt
      have hd : fs.drop k = fs[k] :: fs.drop (k + 1) := List.drop_eq_getElem_cons hlt
      generalize fs[k] = f at *
      have hcw : ∀ i, i < 6 → wr.cell? ⟨b, off + k * 6 + i, none⟩ = (userC f)[i]? := fun i hi => by
        have h1 := hcc i hi
        have h2 : i < (userC f).size := hi
        rw [Array.getElem?_eq_getElem h2] at h1 ⊢
        rw [HH.out.1.cell (p := ⟨b, off + k * 6 + i, none⟩) (World.block_lt_of_cell? w _ h1)]
        exact h1
      have g0 : wr.cell? ⟨b, off + k * 6, none⟩ = some (.string f.name) := hcw 0 (by omega)
      have g1 : wr.cell? ⟨b, off + k * 6 + 1, none⟩ = some (.string f.pass) := hcw 1 (by omega)
      have g2 : wr.cell? ⟨b, off + k * 6 + 2, none⟩ = some (.int .i64 f.id) := hcw 2 (by omega)
      have g3 : wr.cell? ⟨b, off + k * 6 + 3, none⟩ = some (.int .i64 f.group) := hcw 3 (by omega)
      have g4 : wr.cell? ⟨b, off + k * 6 + 4, none⟩ = some (.string f.home) := hcw 4 (by omega)
      have g5 : wr.cell? ⟨b, off + k * 6 + 5, none⟩ = some (.string f.shell) := hcw 5 (by omega)
      have HS : Hid ((if P f = true then (k : Int) else findU P (fs.drop (k + 1)) ((k + 1 : Nat) : Int)) = findU P fs 0) := Lib.hid (by rw [← HH.out.2, hd]; rfl)
      clear hcc hcw hd
      have HA := Lib.hid (sameof_any f xb x wr (by rw [HH.out.1.cell (p := ⟨xb, 0, none⟩) (World.block_lt_of_cell? w _ HX.out)]; exact HX.out))
      unfold userC at HA
      rw [HP.out] at HA
      cases hp : P f with
      | true =>
        rw [hp] at HA
        have HR : Hid (findU P fs 0 = k) := Lib.hid (by rw [← HS.out, if_pos hp])
        clear hp HS
        go_wp2_with fail
        refine HA.out.mono ?_
        rintro e w1 ⟨rfl, hb⟩
        have HB := Lib.hid (HH.out.1.trans (hb.mono HH.out.1.size))
        clear hb
        go_wp2
        go_ret
        exact ⟨by rw [HR.out]; rfl, HB.out⟩
      | false =>
        rw [hp] at HA
        have HR : Hid (findU P (fs.drop (k + 1)) ((k + 1 : Nat) : Int) = findU P fs 0) := Lib.hid (by rw [← HS.out, if_neg (by rw [hp]; decide)])
        clear hp HS
        go_wp2_with fail
        refine HA.out.mono ?_
        rintro e w1 ⟨rfl, hb⟩
        have HB := Lib.hid (HH.out.1.trans (hb.mono HH.out.1.size))
        clear hb
        go_wp2
        go_roundw
        case rel => exact ⟨k + 1, by omega, by go_num, Lib.hid ⟨HB.out, HR.out⟩⟩
        case measure => simp [intOf]; omega
    · have hlt1 : ¬ (k : Int) < fs.length := by omega
      have HR : Hid (findU P fs 0 = -1) := Lib.hid (by rw [← HH.out.2, List.drop_of_length_le (by omega)]; rfl)
      go_wp2
      go_ret
      exact ⟨by rw [HR.out]; rfl, HH.out.1⟩
/-- Who is found. -/
theorem findU_none {p : UserS → Bool} : ∀ (fs : List UserS) (i : Int), (∀ f ∈ fs, p f = false) → findU p fs i = -1
  | [], _, _ => rfl
  | f :: l, i, h => by
    rw [findU, if_neg (by rw [h f (by simp)]; decide), findU_none l _ (fun g hg => h g (by simp [hg]))]
theorem findU_some {p : UserS → Bool} : ∀ (fs : List UserS) (i : Nat), (∃ f ∈ fs, p f = true) → ∃ k : Nat, ∃ h : k < fs.length, p fs[k] = true ∧ (∀ j (hj : j < k), p (fs[j]'(by omega)) = false) ∧ findU p fs i = ((i + k : Nat) : Int)
  | [], _, h => by obtain ⟨f, hf, _⟩ := h; cases hf
  | g :: l, i, h => by
    by_cases hp : p g = true
    · exact ⟨0, by simp, hp, fun j hj => absurd hj (Nat.not_lt_zero j), by rw [findU, if_pos hp]; simp⟩
    · obtain ⟨f, hf, hpf⟩ := h
      have hfl : f ∈ l := by
        rcases List.mem_cons.1 hf with rfl | hf
        · exact absurd hpf hp
        · exact hf
      obtain ⟨k, hk, h1, h2, h3⟩ := findU_some l (i + 1) ⟨f, hfl, hpf⟩
      refine ⟨k + 1, by simpa using hk, by simpa using h1, fun j hj => ?_, ?_⟩
      · cases j with
        | zero => simpa using hp
        | succ j => simpa using h2 j (by omega)
      · rw [findU, if_neg hp]
        have e : ((i : Int) + 1) = ((i + 1 : Nat) : Int) := by omega
        rw [e, h3]
        congr 1; omega
theorem findU_cases (p : UserS → Bool) (fs : List UserS) : (findU p fs 0 = -1 ∧ ∀ f ∈ fs, p f = false) ∨ ∃ k : Nat, ∃ h : k < fs.length, p fs[k] = true ∧ (∀ j (hj : j < k), p (fs[j]'(by omega)) = false) ∧ findU p fs 0 = (k : Int) := by
  by_cases h : ∃ f ∈ fs, p f = true
  · right
    obtain ⟨k, hk, h1, h2, h3⟩ := findU_some (p := p) fs 0 h
    exact ⟨k, hk, h1, h2, by rw [show (0 : Int) = ((0 : Nat) : Int) from rfl, h3]; simp⟩
  · left
    have h' : ∀ f ∈ fs, p f = false := fun f hf => by
      cases hp : p f with
      | false => rfl
      | true => exact absurd ⟨f, hf, hp⟩ h
    exact ⟨findU_none fs 0 h', h'⟩
end Go.Proofs.Pw
/- Path: no byte that may not be. -/
namespace Go.Proofs.Pw.Pp
open Go.RowKit

theorem ret_bool {a b : Bool} (h : a = b) : Ending.returned (.bool a) = .returned (.bool b) := by rw [h]
theorem toList_data (s : ByteArray) : s.toList = s.data.toList := ByteArray.toList_eq s
/-- No byte is one that may not be. -/
def okc (c : UInt8) : Bool := decide (32 ≤ c.toNat) && decide (c.toNat ≠ 127)
def plainB (l : List UInt8) : Bool := l.all okc

theorem plain_take (s : ByteArray) (k : Nat) (h : k < s.size) : plainB (s.data.toList.take (k + 1)) = (plainB (s.data.toList.take k) && okc s[k]) := by
  unfold plainB
  rw [List.take_succ_eq_append_getElem (by simpa using h), List.all_append]
  simp only [List.all_cons, List.all_nil, Bool.and_true]
  rfl
theorem plain_all (s : ByteArray) (k : Nat) (hk : s.size ≤ k) : s.data.toList.take k = s.data.toList := List.take_of_length_le (by simpa using hk)
theorem plain_bad (s : ByteArray) (k : Nat) (h : k < s.size) (hb : okc s[k] = false) : plainB s.data.toList = false := by
  unfold plainB
  rw [List.all_eq_false]
  exact ⟨s[k], by have : s[k] = s.data.toList[k]'(by simpa using h) := rfl
                  rw [this]; exact List.getElem_mem _, by simp [hb]⟩

set_option maxHeartbeats 400000 in
theorem plain_any (s : ByteArray) (w : World) (hs : s.size ≤ 1000000) :
    Calls Tryz.prog 259 #[.string s] w fun e w' => e = .returned (.bool (plainB s.data.toList)) ∧ w = w' := by
  go_enter Tryz.func259, Tryz.ntmps259
  go_wp2
  go_loop [6] (fun i => ∃ k : Nat, k ≤ s.size ∧ i = .int .i64 k ∧ plainB (s.data.toList.take k) = true) (fun i => s.size - (intOf i).toNat)
  case atStart => exact ⟨0, Nat.zero_le _, rfl, rfl⟩
  case round =>
    obtain ⟨k, hk, rfl, hp⟩ := hrel
    have HP := Lib.hid hp
    clear hp
    by_cases hlt : k < s.size
    · by_cases h1 : (s[k].toNat : Int) < 32
      · have hb : okc s[k] = false := by simp [okc]; omega
        have HB := Lib.hid hb
        clear hb
        go_wp2
        go_ret
        exact ⟨ret_bool (plain_bad s k hlt HB.out).symm, rfl⟩
      · by_cases h2 : ((s[k].toNat : Int) == 127) = true
        · have hb : okc s[k] = false := by simp at h2; simp [okc]; omega
          have HB := Lib.hid hb
          clear hb
          go_wp2
          go_ret
          exact ⟨ret_bool (plain_bad s k hlt HB.out).symm, rfl⟩
        · have h3 : ((s[k].toNat : Int) == 127) = false := by simpa using h2
          have hb : okc s[k] = true := by simp at h3; simp [okc]; omega
          have HB := Lib.hid hb
          clear hb h2
          go_wp2
          go_round
          case rel => exact ⟨k + 1, by omega, by go_num, by rw [plain_take s k hlt, HP.out, HB.out]; rfl⟩
          case measure => simp [intOf]; omega
    · go_wp2
      go_ret
      exact ⟨ret_bool (by rw [plain_all s k (by omega)] at HP; exact HP.out.symm), rfl⟩
theorem info9 : (Tryz.prog.info? 9).map (fun i => (i.zero, i.size, i.bytes)) = some (some (.string ByteArray.empty), 1, 16) := by kernel_rfl

theorem own_ge {w : World} {base : Nat} {e : TypeId} {sz n : Nat} {v : Value} {xs : List Value} (h : w.ownsRow base e sz v n xs) : ∀ k, v.ownBlock = some k → base ≤ k := by
  intro k hk
  obtain ⟨_, ⟨rfl, h0⟩ | ⟨g, cap, cur, rfl, hb, _⟩⟩ := h
  · cases hk
  · cases hk; exact hb
theorem app_below {w wr w1 : World} {o : Value} {n : Nat} {xs : List Value} (hb : Below w.heap.size w wr) (ho : wr.ownsRow w.heap.size 9 1 o n xs) (X : Obj) (hg : (wr.alloc X).grownBy w1 o.ownBlock) : Below w.heap.size w w1 :=
  (hb.alloc hb.size X).grown hg (by have := hb.size; rw [World.size_alloc]; omega) (own_ge ho)

end Go.Proofs.Pw.Pp
namespace Go.Proofs.Pw.Pp
open Go.RowKit Go.Shelf
attribute [local go_sem] Oper.semAt_some

/-- How much of the text is left in the iterator's own cell. -/
def left (Bn : Nat) (w : World) : Nat := match w.cell? ⟨Bn, 0, none⟩ with
  | some (.string r) => r.size
  | _ => 0
theorem left_eq {Bn : Nat} {w : World} {r : ByteArray} (h : w.cell? ⟨Bn, 0, none⟩ = some (.string r)) : left Bn w = r.size := by simp [left, h]

set_option maxHeartbeats 1000000 in
/-- The iterator: each name goes to yield, till that says no. J: what holds between two rounds, behind the names that have come; the iterator writes its own cell Bn alone, and draws. -/
theorem names_in (n l Bn : Nat) (s : ByteArray) (J : List ByteArray → World → Prop) (Jx : World → Prop) (hs : s.size ≤ 1000000)
    (hY : ∀ pre x W, J pre W → x.data.toList ∈ parts s.data.toList → x.size ≤ s.size → pre.length < s.size → YieldAt Fence.wide (n - 1) Tryz.prog l #[.string x] W fun e W' =>
      (e = .returned (.bool true) ∧ J (pre ++ [x]) W' ∧ W'.heap[Bn]? = W.heap[Bn]?) ∨ (e = .returned (.bool false) ∧ Jx W'))
    (hC : ∀ pre W v, J pre W → J pre (W.setCell ⟨Bn, 0, none⟩ v)) (hD : ∀ pre W q, J pre W → J pre (W.drewN q))
    (W : World) (hc : W.cell? ⟨Bn, 0, none⟩ = some (.string s)) (hf : W.frozen? ⟨Bn, 0, none⟩ = false) (h0 : J [] W) :
    CallsIn Fence.wide n Tryz.prog 262 #[.func (.yield l) #[] #[], .pointer (some ⟨Bn, 0, none⟩)] W fun e W' => (∃ v, e = .returned v) ∧
      ((∃ xs, xs.map (fun x : ByteArray => x.data.toList) = parts s.data.toList ∧ J xs W') ∨ Jx W') := by
  refine callsIn_of_wp Tryz.func262 rfl trivial ?_ rfl
  simp only [Tryz.ntmps262, List.size_toArray, List.length_cons, List.length_nil, Nat.reduceAdd, Nat.reduceSub, Array.replicate_succ, Array.replicate_zero, List.push_toArray, List.append_toArray, List.nil_append, List.cons_append]
  have HY := Lib.hid hY
  have HC := Lib.hid hC
  have HD := Lib.hid hD
  have H0 := Lib.hid h0
  have HCell := Lib.hid hc
  have HF := Lib.hid hf
  clear hY hC hD h0 hc hf
  gi_wp2
  gi_loopw [3] (fun _ wr => ∃ (pre : List ByteArray) (r : ByteArray), wr.cell? ⟨Bn, 0, none⟩ = some (.string r) ∧ wr.frozen? ⟨Bn, 0, none⟩ = false ∧ pre.length + r.size ≤ s.size ∧ parts s.data.toList = pre.map (fun x : ByteArray => x.data.toList) ++ parts r.data.toList ∧ J pre wr)
    (fun _ wr => left Bn wr)
  case atStart =>
    exact ⟨[], s, HCell.out, HF.out, by simp, by simp, H0.out⟩
  case round =>
    obtain ⟨pre, r, hcr, hfr, hl, hp, hJ⟩ := hrel
    have HP := Lib.hid hp
    have HJ := Lib.hid hJ
    have HL := Lib.hid hl
    clear hp hJ hl
    by_cases hr : r.data.toList = []
    · have hr1 : r.toList = [] := by rw [toList_data]; exact hr
      have HR := Lib.hid hr
      clear hr
      gi_wp2
      go_end0
      exact ⟨⟨_, rfl⟩, .inl ⟨pre, by rw [HP.out, HR.out]; simp [parts_nil], HJ.out⟩⟩
    · have hr1 : r.toList.isEmpty = false := by rw [toList_data]; cases hh : r.data.toList with | nil => exact absurd hh hr | cons => rfl
      have HR := Lib.hid hr
      clear hr
      rcases Int.lt_or_le (Lib.indexByte r.data.toList 47) 0 with hi | hi
      · have HI : Hid (Lib.indexByte r.data.toList 47 = -1) := Lib.hid (by have := Lib.indexByte_ge r.data.toList 47; omega)
        clear hi
        gi_wp2_with fail
        refine ⟨trivial, fun h => (by cases h), ?_⟩
        refine (callsIn_wide.2 (cut_none 47 r _ HI.out)).mono ?_
        rintro e w' ⟨rfl, q, rfl⟩
        have HX : Hid (r.data.toList ≠ []) := HR
        have hrz : 0 < r.size := by rw [← sz]; exact List.length_pos_iff.2 HR.out
        have HPE := Lib.hid (parts_end r.data.toList (no_stroke HI.out))
        obtain ⟨fn, tmps, assign, body, hy, hR⟩ := HY.out pre r (wr.drewN q) (HD.out _ _ _ HJ.out) (by rw [HP.out, HPE.out, if_neg HX.out]; simp) (by have := HL.out; omega) (by have := HL.out; omega)
        gi_wp2
        refine ⟨fun h => (by cases h), hR.mono ?_⟩
        rintro e W3 (⟨rfl, hJ3, hk3⟩ | ⟨rfl, hJx3⟩)
        · have hc3 : W3.cell? ⟨Bn, 0, none⟩ = some (.string r) := (World.cell?_of_block (w := wr.drewN q) (a := ⟨Bn, 0, none⟩) hk3).trans hcr
          have hf3 : W3.frozen? ⟨Bn, 0, none⟩ = false := (World.frozen?_of_block (w := wr.drewN q) (a := ⟨Bn, 0, none⟩) hk3).trans hfr
          have HJ3 := Lib.hid hJ3
          clear hJ3 hk3 hy hR
          gi_wp2
          have e1 : (W3.setCell ⟨Bn, 0, none⟩ (.string ⟨#[]⟩)).cell? ⟨Bn, 0, none⟩ = some (.string ⟨#[]⟩) := World.cell?_setCell_same _ _ _ hc3
          go_roundw
          case rel => exact ⟨pre ++ [r], ⟨#[]⟩, e1, by rw [World.frozen?_setCell]; exact hf3, by have := HL.out; have e9 : ({ data := #[] } : ByteArray).size = 0 := rfl; simp only [List.length_append, List.length_cons, List.length_nil]; omega, by rw [HP.out, HPE.out, if_neg HR.out, show (({ data := #[] } : ByteArray).data.toList) = [] from rfl, parts_nil]; simp, HC.out _ _ _ HJ3.out⟩
          case measure => rw [left_eq e1, left_eq hcr]; exact hrz
        · gi_wp2
          refine bodyPost_ret (results_none rfl _ _ _) rfl ?_
          exact ⟨⟨_, rfl⟩, .inr hJx3⟩
      · obtain ⟨i, hi'⟩ : ∃ i : Nat, Lib.indexByte r.data.toList 47 = i := ⟨(Lib.indexByte r.data.toList 47).toNat, by omega⟩
        have HI := Lib.hid hi'
        have hilt : i < r.size := by have := (stroke_at hi').1; rwa [sz] at this
        have HPE : Hid (parts r.data.toList = (if (r.extract 0 i).data.toList = [] then [] else [(r.extract 0 i).data.toList]) ++ parts (r.extract (i + 1) r.size).data.toList) := Lib.hid (by
          obtain ⟨h1, h2, h3⟩ := stroke_at hi'
          have e1 : (r.extract 0 i).data.toList = r.data.toList.take i := by rw [ex_data]; simp
          have e2 : (r.extract (i + 1) r.size).data.toList = r.data.toList.drop (i + 1) := by rw [ex_data, List.take_of_length_le (by rw [sz]; exact Nat.le_refl _)]
          rw [e1, e2]
          conv => lhs; rw [h3]
          exact parts_cut _ _ h2)
        have hes : (r.extract 0 i).size = i := by simp [ByteArray.size_extract]; omega
        have HES := Lib.hid hes
        clear hi hi' hes
        gi_wp2_with fail
        refine ⟨trivial, fun h => (by cases h), ?_⟩
        refine (callsIn_wide.2 (cut_some 47 r _ i HI.out (by have := HL.out; omega))).mono ?_
        rintro e w' ⟨rfl, q, rfl⟩
        by_cases h0 : i = 0
        · subst h0
          have hx2 : (r.extract 0 0).data.toList = [] := by rw [ex_data]; simp
          have hx1 : (r.extract 0 0).toList = [] := by rw [toList_data]; exact hx2
          have HX := Lib.hid hx2
          have hcr2 : (wr.drewN q).cell? ⟨Bn, 0, none⟩ = some (.string r) := hcr
          clear hx2
          gi_wp2
          refine ⟨fun _ h => (by cases h), ?_⟩
          gi_wp2
          have e1 : ((wr.drewN q).setCell ⟨Bn, 0, none⟩ (.string (r.extract 1 r.size))).cell? ⟨Bn, 0, none⟩ = some (.string (r.extract 1 r.size)) := World.cell?_setCell_same _ _ _ hcr2
          go_roundw
          case rel => exact ⟨pre, r.extract 1 r.size, e1, by rw [World.frozen?_setCell]; exact hfr, by have := HL.out; simp [ByteArray.size_extract]; omega, by rw [HP.out, HPE.out, if_pos HX.out]; simp, HC.out _ _ _ (HD.out _ _ _ HJ.out)⟩
          case measure => rw [left_eq e1, left_eq hcr]; simp [ByteArray.size_extract]; omega
        · have HX : Hid ((r.extract 0 i).data.toList ≠ []) := Lib.hid (fun e => by have := congrArg List.length e; rw [sz, HES.out] at this; exact h0 this)
          have hx1 : (r.extract 0 i).toList.isEmpty = false := by rw [toList_data]; cases hh : (r.extract 0 i).data.toList with | nil => exact absurd hh HX.out | cons => rfl
          obtain ⟨fn, tmps, assign, body, hy, hR⟩ := HY.out pre (r.extract 0 i) (wr.drewN q) (HD.out _ _ _ HJ.out) (by rw [HP.out, HPE.out, if_neg HX.out]; simp) (by have := HL.out; simp [ByteArray.size_extract]; omega) (by have := HL.out; omega)
          gi_wp2
          refine ⟨fun h => (by cases h), hR.mono ?_⟩
          rintro e W3 (⟨rfl, hJ3, hk3⟩ | ⟨rfl, hJx3⟩)
          · have hc3 : W3.cell? ⟨Bn, 0, none⟩ = some (.string r) := (World.cell?_of_block (w := wr.drewN q) (a := ⟨Bn, 0, none⟩) hk3).trans hcr
            have hf3 : W3.frozen? ⟨Bn, 0, none⟩ = false := (World.frozen?_of_block (w := wr.drewN q) (a := ⟨Bn, 0, none⟩) hk3).trans hfr
            have HJ3 := Lib.hid hJ3
            clear hJ3 hk3 hy hR
            gi_wp2
            have e1 : (W3.setCell ⟨Bn, 0, none⟩ (.string (r.extract (i + 1) r.size))).cell? ⟨Bn, 0, none⟩ = some (.string (r.extract (i + 1) r.size)) := World.cell?_setCell_same _ _ _ hc3
            go_roundw
            case rel => exact ⟨pre ++ [(r.extract 0 i)], (r.extract (i + 1) r.size), e1, by rw [World.frozen?_setCell]; exact hf3, by have := HL.out; simp [ByteArray.size_extract]; omega, by rw [HP.out, HPE.out, if_neg HX.out]; simp, HC.out _ _ _ HJ3.out⟩
            case measure => rw [left_eq e1, left_eq hcr]; simp [ByteArray.size_extract]; omega
          · gi_wp2
            refine bodyPost_ret (results_none rfl _ _ _) rfl ?_
            exact ⟨⟨_, rfl⟩, .inr hJx3⟩
end Go.Proofs.Pw.Pp
namespace Go.Proofs.Pw.Pp
open Go.RowKit Go.Shelf
attribute [local go_sem] Oper.semAt_some

def kept (xs : List ByteArray) : List ByteArray := xs.filter fun x => decide (¬ x.data.toList = [46])
def lastOf (xs : List ByteArray) : ByteArray := (xs.getLast?).getD ⟨#[]⟩
theorem kept_yes (xs : List ByteArray) (x : ByteArray) (h : ¬ x.data.toList = [46]) : kept (xs ++ [x]) = kept xs ++ [x] := by simp [kept, List.filter_append, h]
theorem kept_no (xs : List ByteArray) (x : ByteArray) (h : x.data.toList = [46]) : kept (xs ++ [x]) = kept xs := by simp [kept, List.filter_append, h]
theorem kept_len (xs : List ByteArray) : (kept xs).length ≤ xs.length := List.length_filter_le _ _
theorem last_app (xs : List ByteArray) (x : ByteArray) : lastOf (xs ++ [x]) = x := by simp [lastOf]

theorem own_same {W W' : World} {base n : Nat} {v : Value} {xs : List Value} (h : W.ownsRow base 9 1 v n xs) (hs : ∀ g o, base ≤ g → W.heap[g]? = some o → W'.heap[g]? = some o) : W'.ownsRow base 9 1 v n xs := by
  obtain ⟨h1, ⟨h2, h3⟩ | ⟨g, cap, cur, h2, hb, hh, rest⟩⟩ := h
  · exact ⟨h1, .inl ⟨h2, h3⟩⟩
  · exact ⟨h1, .inr ⟨g, cap, cur, h2, hb, hs g _ hb hh, rest⟩⟩

/-- What Split holds between two rounds, behind the names xs. -/
structure SI (w0 : World) (abs dir : Bool) (lp : Obj) (xs : List ByteArray) (W : World) : Prop where
  below : Below w0.heap.size w0 W
  res : W.heap[w0.heap.size]? = some (.cells #[.bool false, .slice none 0 0, .bool false] 214 (0, 0))
  err : W.heap[w0.heap.size + 1]? = some (.cells #[.int .i64 0] 29 (0, 0))
  p : ∃ v, W.heap[w0.heap.size + 2]? = some (.cells #[.bool abs, v, .bool dir] 214 (0, 0)) ∧ W.ownsRow (w0.heap.size + 7) 9 1 v (kept xs).length ((kept xs).map .string)
  last : W.heap[w0.heap.size + 3]? = some (.cells #[.string (lastOf xs)] 9 (0, 0))
  dfr : W.heap[w0.heap.size + 5]? = some (.deferred (some []))
  loop : W.heap[w0.heap.size + 6]? = some lp
  size : w0.heap.size + 7 ≤ W.heap.size

theorem SI.turn {w0 W W' : World} {abs dir : Bool} {lp : Obj} {xs : List ByteArray} (h : SI w0 abs dir lp xs W) (hs : ∀ g o, g ≠ w0.heap.size + 4 → W.heap[g]? = some o → W'.heap[g]? = some o) (hb : Below w0.heap.size W W') : SI w0 abs dir lp xs W' where
  below := h.below.trans hb
  res := hs _ _ (by omega) h.res
  err := hs _ _ (by omega) h.err
  p := by obtain ⟨v, h1, h2⟩ := h.p; exact ⟨v, hs _ _ (by omega) h1, own_same h2 (fun g o hg => hs g o (by omega))⟩
  last := hs _ _ (by omega) h.last
  dfr := hs _ _ (by omega) h.dfr
  loop := hs _ _ (by omega) h.loop
  size := Nat.le_trans h.size hb.size
theorem SI.setOwn {w0 W : World} {abs dir : Bool} {lp : Obj} {xs : List ByteArray} (h : SI w0 abs dir lp xs W) (v : Value) : SI w0 abs dir lp xs (W.setCell ⟨w0.heap.size + 4, 0, none⟩ v) :=
  h.turn (fun g o hg ho => by rw [Below.heap_setCell _ _ _ _ hg]; exact ho) ((Below.refl _ _).setCell (by simp) _)
theorem SI.drewN {w0 W : World} {abs dir : Bool} {lp : Obj} {xs : List ByteArray} (h : SI w0 abs dir lp xs W) (q : Nat) : SI w0 abs dir lp xs (W.drewN q) :=
  h.turn (fun _ _ _ ho => ho) ⟨rfl, rfl, rfl, Nat.le_refl _, fun _ _ => rfl⟩
theorem SI.alloc {w0 W : World} {abs dir : Bool} {lp : Obj} {xs : List ByteArray} (h : SI w0 abs dir lp xs W) (o : Obj) : SI w0 abs dir lp xs (W.alloc o) :=
  h.turn (fun g o' _ ho => by rw [Below.heap_alloc _ _ _ (Array.getElem?_eq_some_iff.1 ho).1]; exact ho) ((Below.refl _ _).alloc (by have := h.size; omega) _)
theorem SI.put {w0 W : World} {abs dir : Bool} {lp : Obj} {xs : List ByteArray} (h : SI w0 abs dir lp xs W) (lp' : Obj) : SI w0 abs dir lp' xs (W.putObj (w0.heap.size + 6) lp') where
  below := h.below.trans ⟨rfl, rfl, rfl, by simp, fun k hk => World.putObj_heap_other (by omega)⟩
  res := (World.putObj_heap_other (by omega)).trans h.res
  err := (World.putObj_heap_other (by omega)).trans h.err
  p := by
    obtain ⟨v, h1, h2⟩ := h.p
    exact ⟨v, (World.putObj_heap_other (by omega)).trans h1, own_same h2 (fun g o hg ho => (World.putObj_heap_other (by omega)).trans ho)⟩
  last := (World.putObj_heap_other (by omega)).trans h.last
  dfr := (World.putObj_heap_other (by omega)).trans h.dfr
  loop := World.putObj_heap_same (by have := h.size; omega)
  size := by rw [World.putObj_size]; exact h.size

theorem heap_cell {w : World} {b : Nat} {C : Array Value} {T : TypeId} {f : Nat × Nat} (h : w.heap[b]? = some (.cells C T f)) (i : Nat) : w.cell? ⟨b, i, none⟩ = C[i]? := by simp [World.cell?, h]
theorem heap_free {w : World} {b : Nat} {C : Array Value} {T : TypeId} (h : w.heap[b]? = some (.cells C T (0, 0))) (i : Nat) : w.frozen? ⟨b, i, none⟩ = false := by simp [World.frozen?, h]

set_option maxHeartbeats 400000 in
theorem mk_names (s : ByteArray) (w : World) :
    Calls Tryz.prog 258 #[.string s] w fun e w' => e = .returned (.func (.func 262) #[] #[.pointer (some ⟨w.heap.size, 0, none⟩)]) ∧ w' = w.alloc (.cells #[.string s] 9) := by
  go_enter Tryz.func258, Tryz.ntmps258
  go_wp2
  go_ret
  exact ⟨rfl, rfl⟩

def splitPost (s : ByteArray) (w : World) (e : Ending) (w' : World) : Prop :=
  ∃ (abs dir : Bool) (v : Value) (l : List ByteArray) (err : Int), e = .returned (.tuple #[.agg #[.bool abs, v, .bool dir], .int .i64 err]) ∧ w'.ownsRow w.heap.size 9 1 v l.length (l.map .string) ∧ Below w.heap.size w w' ∧
    splitS s.data.toList = (abs, dir, l.map (fun x : ByteArray => x.data.toList), err)

/-- A range over the names: what is asked is the one call of the iterator. -/
theorem range_names {g : Operand} {ps : Array Tmp} {assign body : Code} {Q : Exit → Act → World → Prop} {a : Act} (W : World) (ptr : Value) (hg : a.eval g = .func (.func 262) #[] #[ptr])
    (hcall : ∀ fn : FuncId, CallsIn Fence.wide 2 Tryz.prog 262 #[.func (.yield (W.heap.size + 1)) #[] #[], ptr]
      ((W.alloc (.deferred (some []))).alloc (.loop { state := .ready, pending := none, fn, tmps := a.tmps, params := ps, assign, body, defers := W.heap.size }))
      (rangePost Fence.wide 3 Tryz.prog (W.heap.size + 1) Q { a with defers := [{ target := .collected W.heap.size, args := #[] }] ++ a.defers })) :
    (Code.rangeFunc g ps assign body).wpIn Fence.wide 3 Tryz.prog Q a W := by
  refine wpIn_rangeFunc (fun fn _ => ?_)
  obtain ⟨W1, hW1⟩ : ∃ W1, (W.alloc (.deferred (some []))).alloc (.loop { state := .ready, pending := none, fn, tmps := a.tmps, params := ps, assign, body, defers := W.heap.size }) = W1 := ⟨_, rfl⟩
  have hc := hcall fn
  rw [hW1] at hc
  refine ⟨W.heap.size + 1, [{ target := .collected W.heap.size, args := #[] }], W1, { target := .fn (.func 262) #[ptr], args := #[.func (.yield (W.heap.size + 1)) #[] #[]] }, W1, 262, #[.func (.yield (W.heap.size + 1)) #[] #[], ptr], W1, ?_, ?_, fun _ _ => trivial, ?_, fun h => (by cases h), hc⟩
  · rw [← hW1]; exact run_enterLoop_outer _ _ _ _ _
  · simp only [resolve, hg]
    simp [go_sem]
  · have he := enters_of (P := Tryz.prog) Tryz.func262 (by kernel_rfl) rfl
    simp [invoke, go_sem, he]

theorem below_put {n : Nat} {w W : World} {l : Nat} {o : Obj} (h : Below n w W) (hl : n ≤ l) : Below n w (W.putObj l o) :=
  h.trans ⟨rfl, rfl, rfl, by simp, fun k hk => World.putObj_heap_other (by omega)⟩
theorem push7 (h : Array Obj) (a b c d e f g : Obj) :
    let H := ((((((h.push a).push b).push c).push d).push e).push f).push g
    H[h.size]? = some a ∧ H[h.size + 1]? = some b ∧ H[h.size + 2]? = some c ∧ H[h.size + 3]? = some d ∧ H[h.size + 4]? = some e ∧ H[h.size + 5]? = some f ∧ H[h.size + 6]? = some g := by
  simp only [Array.getElem?_push, Array.size_push]
  refine ⟨?_, ?_, ?_, ?_, ?_, ?_, ?_⟩ <;> repeat (first | rw [if_pos trivial] | rw [if_neg (by omega)] | rw [if_pos (by omega)])

/-- Split has met a name that is too long. -/
def Stop (w0 : World) (s : ByteArray) (r : Loop) (W : World) : Prop :=
  Below w0.heap.size w0 W ∧ W.heap[w0.heap.size]? = some (.cells #[.bool false, .slice none 0 0, .bool false] 214 (0, 0)) ∧ W.heap[w0.heap.size + 1]? = some (.cells #[.int .i64 10] 29 (0, 0)) ∧
  W.heap[w0.heap.size + 5]? = some (.deferred (some [])) ∧ W.heap[w0.heap.size + 6]? = some (.loop { r with state := .done, pending := some .ret }) ∧ (∃ x ∈ parts s.data.toList, 14 < x.length)
def Short (xs : List ByteArray) : Prop := ∀ x ∈ xs, x.size ≤ 14
def roundR (w0 : World) (s : ByteArray) (abs dir : Bool) (r : Loop) (pre : List ByteArray) (x : ByteArray) (W : World) (e : Ending) (W' : World) : Prop :=
  (e = .returned (.bool true) ∧ (SI w0 abs dir (.loop r) (pre ++ [x]) W' ∧ Short (pre ++ [x])) ∧ W'.heap[w0.heap.size + 4]? = W.heap[w0.heap.size + 4]?) ∨ (e = .returned (.bool false) ∧ Stop w0 s r W')

theorem iter_calls (w0 : World) (s : ByteArray) (hs : s.size ≤ 128) (abs dir : Bool) (r : Loop) (hp : r.params.size = 1) (W : World) (h : SI w0 abs dir (.loop r) [] ((W.alloc (.deferred (some []))).alloc (.loop r)))
    (hc : ((W.alloc (.deferred (some []))).alloc (.loop r)).heap[w0.heap.size + 4]? = some (.cells #[.string s] 9 (0, 0)))
    (hR : ∀ pre x W, SI w0 abs dir (.loop r) pre W → Short pre → x.data.toList ∈ parts s.data.toList → x.size ≤ 128 → pre.length < 128 →
      RoundIn Fence.wide 1 Tryz.prog (w0.heap.size + 6) r.fn ((r.params.zip #[.string x]).foldl (fun t (p, v) => t.setIfInBounds p v) r.tmps) r.assign r.body W (roundR w0 s abs dir r pre x W)) :
    CallsIn Fence.wide 2 Tryz.prog 262 #[.func (.yield (w0.heap.size + 6)) #[] #[], .pointer (some ⟨w0.heap.size + 4, 0, none⟩)] ((W.alloc (.deferred (some []))).alloc (.loop r)) fun e W' => (∃ v, e = .returned v) ∧
      ((∃ xs, xs.map (fun x : ByteArray => x.data.toList) = parts s.data.toList ∧ SI w0 abs dir (.loop r) xs W' ∧ Short xs) ∨ Stop w0 s r W') := by
  refine names_in 2 (w0.heap.size + 6) (w0.heap.size + 4) s (fun xs W => SI w0 abs dir (.loop r) xs W ∧ Short xs) (Stop w0 s r) (by omega) ?_ (fun pre W v hh => ⟨hh.1.setOwn v, hh.2⟩) (fun pre W q hh => ⟨hh.1.drewN q, hh.2⟩) _ (heap_cell hc 0) (heap_free hc 0) ⟨h, fun x hx => by cases hx⟩
  intro pre x W hh hx hsz hlen
  exact ⟨r.fn, _, r.assign, r.body, run_yield hh.1.loop (by rw [hp]; rfl), hR pre x W hh.1 hh.2 hx (by omega) (by omega)⟩

theorem short_app {pre : List ByteArray} {x : ByteArray} (h : Short pre) (hx : ¬ 14 < x.size) : Short (pre ++ [x]) := fun y hy => by
  rcases List.mem_append.1 hy with h1 | h1
  · exact h y h1
  · have : y = x := by simpa using h1
    rw [this]; omega
theorem begin_round {w0 W : World} {abs dir : Bool} {r : Loop} {pre : List ByteArray} (h : SI w0 abs dir (.loop r) pre W) (hr : r.state = .ready) {K : World → Prop}
    (hK : ∀ W3, SI w0 abs dir (.loop { r with state := .busy }) pre W3 → W3.heap[w0.heap.size + 4]? = W.heap[w0.heap.size + 4]? → K W3) : ∃ w₂, (Instr.beginRound (w0.heap.size + 6)).run Tryz.prog W = .ok () w₂ ∧ K w₂ :=
  ⟨_, run_beginRound h.loop hr, hK _ (h.put _) (World.putObj_heap_other (by omega))⟩
theorem set_same {w : World} {b i : Nat} {C : Array Value} {T : TypeId} {f : Nat × Nat} (h : w.heap[b]? = some (.cells C T f)) (v : Value) : (w.setCell ⟨b, i, none⟩ v).heap[b]? = some (.cells (C.setIfInBounds i v) T f) := by
  simp [World.setCell, Array.getElem?_modify, h]
theorem set_other {w : World} {b c i : Nat} {o : Obj} (h : w.heap[c]? = some o) (v : Value) (hne : c ≠ b) : (w.setCell ⟨b, i, none⟩ v).heap[c]? = some o := by
  rw [Below.heap_setCell _ _ _ _ hne]; exact h
/-- The round in which a name is too long. -/
theorem SI.stopped {w0 W2 W : World} {s : ByteArray} {abs dir : Bool} {r : Loop} {pre : List ByteArray} {x : ByteArray} (h : SI w0 abs dir (.loop { r with state := .busy }) pre W) (hx : x.data.toList ∈ parts s.data.toList) (hl : 14 < x.size) :
    ∃ v w', (Instr.endRound (w0.heap.size + 6) (some .ret)).run Tryz.prog ((((W.setCell ⟨w0.heap.size, 0, none⟩ (.bool false)).setCell ⟨w0.heap.size, 1, none⟩ (.slice none 0 0)).setCell ⟨w0.heap.size, 2, none⟩ (.bool false)).setCell ⟨w0.heap.size + 1, 0, none⟩ (.int .i64 10)) = .ok v w' ∧ roundR w0 s abs dir r pre x W2 (.returned v) w' := by
  obtain ⟨W5, hW5⟩ : ∃ W5, ((((W.setCell ⟨w0.heap.size, 0, none⟩ (.bool false)).setCell ⟨w0.heap.size, 1, none⟩ (.slice none 0 0)).setCell ⟨w0.heap.size, 2, none⟩ (.bool false)).setCell ⟨w0.heap.size + 1, 0, none⟩ (.int .i64 10)) = W5 := ⟨_, rfl⟩
  have b5 : Below w0.heap.size W W5 := by rw [← hW5]; exact ((((Below.refl _ _).setCell (by simp) _).setCell (by simp) _).setCell (by simp) _).setCell (by simp) _
  have r5 : W5.heap[w0.heap.size]? = some (.cells #[.bool false, .slice none 0 0, .bool false] 214 (0, 0)) := by
    rw [← hW5]; exact set_other (set_same (set_same (set_same h.res _) _) _) _ (by omega)
  have e5 : W5.heap[w0.heap.size + 1]? = some (.cells #[.int .i64 10] 29 (0, 0)) := by
    rw [← hW5]; exact set_same (set_other (set_other (set_other h.err _ (by omega)) _ (by omega)) _ (by omega)) _
  have d5 : W5.heap[w0.heap.size + 5]? = some (.deferred (some [])) := by
    rw [← hW5]; exact set_other (set_other (set_other (set_other h.dfr _ (by omega)) _ (by omega)) _ (by omega)) _ (by omega)
  have l5 : W5.heap[w0.heap.size + 6]? = some (.loop { r with state := .busy }) := by
    rw [← hW5]; exact set_other (set_other (set_other (set_other h.loop _ (by omega)) _ (by omega)) _ (by omega)) _ (by omega)
  rw [hW5]
  refine ⟨_, _, run_endRound (some .ret) l5, .inr ⟨rfl, h.below.trans (b5.trans ⟨rfl, rfl, rfl, by simp, fun k hk => World.putObj_heap_other (by omega)⟩), (World.putObj_heap_other (by omega)).trans r5, (World.putObj_heap_other (by omega)).trans e5, (World.putObj_heap_other (by omega)).trans d5, ?_, x.data.toList, hx, by rw [sz]; exact hl⟩⟩
  exact World.putObj_heap_same (by obtain ⟨h1, _⟩ := Array.getElem?_eq_some_iff.1 l5; exact h1)
/-- A round that goes on. -/
theorem SI.goes {w0 W2 W : World} {s : ByteArray} {abs dir : Bool} {r : Loop} {pre : List ByteArray} {x : ByteArray} (h : SI w0 abs dir (.loop { r with state := .busy }) (pre ++ [x]) W) (hr : r.state = .ready) (hp : r.pending = none) (hsh : Short (pre ++ [x])) (hb : W.heap[w0.heap.size + 4]? = W2.heap[w0.heap.size + 4]?) :
    ∃ v w', (Instr.endRound (w0.heap.size + 6) none).run Tryz.prog W = .ok v w' ∧ roundR w0 s abs dir r pre x W2 (.returned v) w' := by
  refine ⟨_, _, run_endRound none h.loop, .inl ⟨rfl, ⟨?_, hsh⟩, (World.putObj_heap_other (by omega)).trans hb⟩⟩
  have := h.put (.loop r)
  obtain ⟨st, pe, f1, f2, f3, f4, f5, f6⟩ := r
  simp only at hr hp
  subst hr hp
  exact this

theorem SI.lastSet {w0 W : World} {abs dir : Bool} {lp : Obj} {pre : List ByteArray} {x : ByteArray} (h : SI w0 abs dir lp pre W) (hk : kept (pre ++ [x]) = kept pre) : SI w0 abs dir lp (pre ++ [x]) (W.setCell ⟨w0.heap.size + 3, 0, none⟩ (.string x)) where
  below := h.below.setCell (by simp) _
  res := set_other h.res _ (by omega)
  err := set_other h.err _ (by omega)
  p := by
    obtain ⟨v, h1, h2⟩ := h.p
    rw [hk]
    exact ⟨v, set_other h1 _ (by omega), own_same h2 (fun g o hg ho => set_other ho _ (by omega))⟩
  last := by rw [last_app]; exact set_same h.last _
  dfr := set_other h.dfr _ (by omega)
  loop := set_other h.loop _ (by omega)
  size := by simpa [World.setCell] using h.size
theorem SI.own2 {w0 W : World} {v : Value} {k : Nat} {xs : List Value} (h2 : W.ownsRow (w0.heap.size + 7) 9 1 v k xs) (x : ByteArray) : (W.setCell ⟨w0.heap.size + 3, 0, none⟩ (.string x)).ownsRow (w0.heap.size + 7) 9 1 v k xs :=
  own_same h2 (fun g o hg ho => set_other ho _ (by omega))
theorem cell_one_set (W : World) (a : Addr) (u x : Value) : ∀ j y, [x][j]? = some y → ((W.setCell a u).alloc (.cells #[x] 9)).cell? ((⟨W.heap.size, 0, none⟩ : Addr).add j) = some y := by
  intro j y hj
  have h := cell_one_new (W.setCell a u) x 9 j y hj
  have e : (W.setCell a u).heap.size = W.heap.size := by simp [World.setCell]
  rw [e] at h; exact h
theorem SI.appended {w0 W w1 : World} {abs dir : Bool} {lp : Obj} {pre : List ByteArray} {x : ByteArray} {v v' : Value} (h : SI w0 abs dir lp pre W) (hk : kept (pre ++ [x]) = kept pre ++ [x])
    (hp : W.heap[w0.heap.size + 2]? = some (.cells #[.bool abs, v, .bool dir] 214 (0, 0))) (hv : ∀ k, v.ownBlock = some k → w0.heap.size + 7 ≤ k)
    (hg : ((W.setCell ⟨w0.heap.size + 3, 0, none⟩ (.string x)).alloc (.cells #[.string x] 9)).grownBy w1 v.ownBlock)
    (ho : w1.ownsRow (w0.heap.size + 7) 9 1 v' ((kept pre).length + 1) ((kept pre).map .string ++ [.string x])) :
    SI w0 abs dir lp (pre ++ [x]) (w1.setCell ⟨w0.heap.size + 2, 1, none⟩ v') ∧ (w1.setCell ⟨w0.heap.size + 2, 1, none⟩ v').heap[w0.heap.size + 4]? = W.heap[w0.heap.size + 4]? := by
  have hz := h.size
  have hsz : ((W.setCell ⟨w0.heap.size + 3, 0, none⟩ (.string x)).alloc (.cells #[.string x] 9)).heap.size = W.heap.size + 1 := by simp [World.setCell]
  have e3 : (W.setCell ⟨w0.heap.size + 3, 0, none⟩ (.string x)).heap.size = W.heap.size := by simp [World.setCell]
  have old : ∀ k, k < w0.heap.size + 7 → w1.heap[k]? = (W.setCell ⟨w0.heap.size + 3, 0, none⟩ (.string x)).heap[k]? := fun k hk => by
    rw [hg.block k (by rw [hsz]; omega) (fun e => by have := hv k e.symm; omega), Below.heap_alloc _ _ _ (by rw [e3]; omega)]
  have keep : ∀ k o, k < w0.heap.size + 7 → k ≠ w0.heap.size + 3 → W.heap[k]? = some o → w1.heap[k]? = some o := fun k o hk h3 ho => by
    rw [old k hk]; exact set_other ho _ h3
  have hb1 : Below w0.heap.size W w1 := ⟨hg.os, hg.tape, hg.output, by have := hg.size; rw [hsz] at this; omega, fun k hk => by rw [old k (by omega)]; exact Below.heap_setCell _ _ _ _ (by simp; omega)⟩
  refine ⟨⟨h.below.trans (hb1.setCell (by simp) _), set_other (keep _ _ (by omega) (by omega) h.res) _ (by omega), set_other (keep _ _ (by omega) (by omega) h.err) _ (by omega), ?_, ?_, set_other (keep _ _ (by omega) (by omega) h.dfr) _ (by omega), set_other (keep _ _ (by omega) (by omega) h.loop) _ (by omega), ?_⟩, ?_⟩
  · refine ⟨v', set_same (keep _ _ (by omega) (by omega) hp) _, ?_⟩
    rw [hk]
    have h9 : w1.ownsRow (w0.heap.size + 7) 9 1 v' (kept pre ++ [x]).length ((kept pre ++ [x]).map .string) := by simpa using ho
    exact own_same h9 (fun g o hg ho => set_other ho _ (by omega))
  · rw [last_app]
    refine set_other ?_ _ (by omega)
    rw [old _ (by omega)]; exact set_same h.last _
  · have := hg.size; rw [hsz] at this
    simp [World.setCell]; omega
  · rw [Below.heap_setCell _ _ _ _ (by simp), old _ (by omega)]
    exact Below.heap_setCell _ _ _ _ (by simp)

theorem p_kept {w0 W w1 : World} {abs dir : Bool} {v : Value} {x : ByteArray} (hp : W.heap[w0.heap.size + 2]? = some (.cells #[.bool abs, v, .bool dir] 214 (0, 0))) (hz : w0.heap.size + 7 ≤ W.heap.size) (hv : ∀ k, v.ownBlock = some k → w0.heap.size + 7 ≤ k)
    (hg : ((W.setCell ⟨w0.heap.size + 3, 0, none⟩ (.string x)).alloc (.cells #[.string x] 9)).grownBy w1 v.ownBlock) :
    w1.cell? ⟨w0.heap.size + 1 + 1, 1, none⟩ = some v ∧ w1.frozen? ⟨w0.heap.size + 1 + 1, 1, none⟩ = false := by
  have e3 : (W.setCell ⟨w0.heap.size + 3, 0, none⟩ (.string x)).heap.size = W.heap.size := by simp [World.setCell]
  have h1 : w1.heap[w0.heap.size + 2]? = some (.cells #[.bool abs, v, .bool dir] 214 (0, 0)) := by
    rw [hg.block _ (by simp [World.setCell]; omega) (fun e => by have := hv _ e.symm; omega), Below.heap_alloc _ _ _ (by rw [e3]; omega)]
    exact set_other hp _ (by omega)
  exact ⟨heap_cell h1 1, heap_free h1 1⟩

theorem end_loop {w0 W : World} {abs dir : Bool} {r : Loop} {xs : List ByteArray} (h : SI w0 abs dir (.loop r) xs W) (hr : r.state = .ready) (hp : r.pending = none) {K : Option Code → World → Prop}
    (hK : ∀ W4, SI w0 abs dir (.loop { r with state := .exhausted }) xs W4 → K none W4) : ∃ jump w₄, (Instr.endLoop (w0.heap.size + 6)).run Tryz.prog W = .ok jump w₄ ∧ K jump w₄ :=
  ⟨none, _, (run_endLoop h.loop (by rw [hr]; simp)).trans (by rw [hp]), hK _ (h.put _)⟩
theorem last_parts {xs : List ByteArray} {l : List Bytes} (h : xs.map (fun x : ByteArray => x.data.toList) = l) : l.getLast?.getD [] = (lastOf xs).data.toList := by
  rw [← h, List.getLast?_map, lastOf]
  cases xs.getLast? <;> rfl
theorem kept_parts {xs : List ByteArray} {l : List Bytes} (h : xs.map (fun x : ByteArray => x.data.toList) = l) : l.filter (fun x => decide (¬ x = [46])) = (kept xs).map (fun x : ByteArray => x.data.toList) := by
  rw [← h, kept, List.filter_map]; rfl
theorem short_parts {xs : List ByteArray} {l : List Bytes} (h : xs.map (fun x : ByteArray => x.data.toList) = l) (hs : Short xs) : ¬ ∃ x ∈ l, 14 < x.length := by
  rintro ⟨x, hx, hl⟩
  rw [← h] at hx
  obtain ⟨y, hy, rfl⟩ := List.mem_map.1 hx
  have := hs y hy
  rw [sz] at hl; omega
theorem plain_okb (l : Bytes) : plainB l = l.all okb := rfl
theorem split_ok {s : ByteArray} (h0 : ¬ s.data.toList = []) (hs : s.size ≤ 128) {xs : List ByteArray} (h : xs.map (fun x : ByteArray => x.data.toList) = parts s.data.toList) (hsh : Short xs) (hp : plainB s.data.toList = true) :
    splitS s.data.toList = (Lib.hasPrefix s.data.toList [47], Lib.hasSuffix s.data.toList [47] || (((lastOf xs).data.toList == [46]) || ((lastOf xs).data.toList == [46, 46])), (kept xs).map (fun x : ByteArray => x.data.toList), 0) := by
  have e1 : ¬ (128 < s.data.toList.length ∨ ∃ x ∈ parts s.data.toList, 14 < x.length) := by
    rintro (h1 | h1)
    · rw [sz] at h1; omega
    · exact short_parts h hsh h1
  rw [splitS, if_neg h0, if_neg e1, if_neg (by rw [← plain_okb, hp]; simp), last_parts h, kept_parts h]
theorem split_bad {s : ByteArray} (h0 : ¬ s.data.toList = []) (hs : s.size ≤ 128) {xs : List ByteArray} (h : xs.map (fun x : ByteArray => x.data.toList) = parts s.data.toList) (hsh : Short xs) (hp : plainB s.data.toList = false) :
    splitS s.data.toList = (false, false, [], 1) := by
  have e1 : ¬ (128 < s.data.toList.length ∨ ∃ x ∈ parts s.data.toList, 14 < x.length) := by
    rintro (h1 | h1)
    · rw [sz] at h1; omega
    · exact short_parts h hsh h1
  rw [splitS, if_neg h0, if_neg e1, if_pos (by rw [← plain_okb, hp])]
theorem split_long {b : Bytes} (h0 : ¬ b = []) (h : 128 < b.length ∨ ∃ x ∈ parts b, 14 < x.length) : splitS b = (false, false, [], 10) := by
  rw [splitS, if_neg h0, if_pos h]

theorem leave12 {T : Array Value} {W5 : World} (n0 : Nat) {A D : Bool} {V : Value} {E : Int} (hT2 : T[2]? = some (.pointer (some ⟨n0, 0, none⟩))) (hT3 : T[3]? = some (.pointer (some ⟨n0 + 1, 0, none⟩)))
    (hres : W5.heap[n0]? = some (.cells #[.bool A, V, .bool D] 214 (0, 0))) (herr : W5.heap[n0 + 1]? = some (.cells #[.int .i64 E] 29 (0, 0))) (hdfr : W5.heap[n0 + 5]? = some (.deferred (some []))) {R : Ending → World → Prop}
    (hV : ∃ a n c, V = .slice a n c)
    (hR : R (.returned (.tuple #[.agg #[.bool A, V, .bool D], .int .i64 E])) (W5.putObj (n0 + 5) (.deferred none))) :
    bodyPostM Fence.wide 3 Tryz.prog Tryz.f243 R .ret { tmps := T, defers := [{ target := .collected (n0 + 5), args := #[] }] } W5 := by
  obtain ⟨a, n, c, rfl⟩ := hV
  refine ⟨by simp, .inl ⟨_, _, rfl, run_takeDeferred hdfr, ?_⟩⟩
  obtain ⟨W6, hW6⟩ : ∃ W6, W5.putObj (n0 + 5) (.deferred none) = W6 := ⟨_, rfl⟩
  have h0 : W6.heap[n0]? = some (.cells #[.bool A, .slice a n c, .bool D] 214 (0, 0)) := by rw [← hW6]; exact (World.putObj_heap_other (by omega)).trans hres
  have h1 : W6.heap[n0 + 1]? = some (.cells #[.int .i64 E] 29 (0, 0)) := by rw [← hW6]; exact (World.putObj_heap_other (by omega)).trans herr
  rw [hW6] at hR ⊢
  have c0 : W6.cell? ⟨n0, 0, none⟩ = some (.bool A) := heap_cell h0 0
  have c1 : W6.cell? ⟨n0, 1, none⟩ = some (.slice a n c) := heap_cell h0 1
  have c2 : W6.cell? ⟨n0, 2, none⟩ = some (.bool D) := heap_cell h0 2
  have c3 : W6.cell? ⟨n0 + 1, 0, none⟩ = some (.int .i64 E) := heap_cell h1 0
  exact ⟨_, by simp [results, Tryz.results161, go_sem, hT2, hT3, c0, c1, c2, c3], hR⟩

theorem own_base {w : World} {b b' n : Nat} {v : Value} {xs : List Value} (h : w.ownsRow b 9 1 v n xs) (hb : b' ≤ b) : w.ownsRow b' 9 1 v n xs := by
  obtain ⟨h1, h2 | ⟨g, cap, cur, h2, h3, rest⟩⟩ := h
  · exact ⟨h1, .inl h2⟩
  · exact ⟨h1, .inr ⟨g, cap, cur, h2, by omega, rest⟩⟩
/-- The end of Split: the path is told. -/
theorem SI.final {w0 W : World} {s : ByteArray} {abs dir : Bool} {lp : Obj} {xs : List ByteArray} (h : SI w0 abs dir lp xs W) {V : Value} (hV : ∃ a n c, V = .slice a n c) (hown : W.ownsRow (w0.heap.size + 7) 9 1 V (kept xs).length ((kept xs).map .string)) {T : Array Value} (hT2 : T[2]? = some (.pointer (some ⟨w0.heap.size, 0, none⟩))) (hT3 : T[3]? = some (.pointer (some ⟨w0.heap.size + 1, 0, none⟩))) (D : Bool)
    (hs : splitS s.data.toList = (abs, D, (kept xs).map (fun x : ByteArray => x.data.toList), 0)) :
    bodyPostM Fence.wide 3 Tryz.prog Tryz.f243 (splitPost s w0) .ret { tmps := T, defers := [{ target := .collected (w0.heap.size + 5), args := #[] }] }
      (((((W.setCell ⟨w0.heap.size + 2, 2, none⟩ (.bool D)).setCell ⟨w0.heap.size, 0, none⟩ (.bool abs)).setCell ⟨w0.heap.size, 1, none⟩ V).setCell ⟨w0.heap.size, 2, none⟩ (.bool D)).setCell ⟨w0.heap.size + 1, 0, none⟩ (.int .i64 0)) := by
  obtain ⟨W5, hW5⟩ : ∃ W5, (((((W.setCell ⟨w0.heap.size + 2, 2, none⟩ (.bool D)).setCell ⟨w0.heap.size, 0, none⟩ (.bool abs)).setCell ⟨w0.heap.size, 1, none⟩ V).setCell ⟨w0.heap.size, 2, none⟩ (.bool D)).setCell ⟨w0.heap.size + 1, 0, none⟩ (.int .i64 0)) = W5 := ⟨_, rfl⟩
  have other : ∀ g o, g ≠ w0.heap.size → g ≠ w0.heap.size + 1 → g ≠ w0.heap.size + 2 → W.heap[g]? = some o → W5.heap[g]? = some o := fun g o n0 n1 n2 ho => by
    rw [← hW5]; exact set_other (set_other (set_other (set_other (set_other ho _ n2) _ n0) _ n0) _ n0) _ n1
  have b5 : Below w0.heap.size W W5 := by rw [← hW5]; exact (((((Below.refl _ _).setCell (by simp) _).setCell (by simp) _).setCell (by simp) _).setCell (by simp) _).setCell (by simp) _
  have r5 : W5.heap[w0.heap.size]? = some (.cells #[.bool abs, V, .bool D] 214 (0, 0)) := by
    rw [← hW5]; exact set_other (set_same (set_same (set_same (set_other h.res _ (by omega)) _) _) _) _ (by omega)
  have e5 : W5.heap[w0.heap.size + 1]? = some (.cells #[.int .i64 0] 29 (0, 0)) := by
    rw [← hW5]; exact set_same (set_other (set_other (set_other (set_other h.err _ (by omega)) _ (by omega)) _ (by omega)) _ (by omega)) _
  rw [hW5]
  refine leave12 w0.heap.size hT2 hT3 r5 e5 (other _ _ (by omega) (by omega) (by omega) h.dfr) hV ⟨abs, D, V, kept xs, 0, rfl, ?_, h.below.trans (b5.trans ⟨rfl, rfl, rfl, by simp, fun k hk => World.putObj_heap_other (by omega)⟩), hs⟩
  exact own_base (own_same hown (fun g o hg ho => (World.putObj_heap_other (by omega)).trans (other g o (by omega) (by omega) (by omega) ho))) (by omega)
/-- The end of Split: an error is told. -/
theorem SI.failed {w0 W : World} {s : ByteArray} {abs dir : Bool} {lp : Obj} {xs : List ByteArray} (h : SI w0 abs dir lp xs W) {T : Array Value} (hT2 : T[2]? = some (.pointer (some ⟨w0.heap.size, 0, none⟩))) (hT3 : T[3]? = some (.pointer (some ⟨w0.heap.size + 1, 0, none⟩)))
    (hs : splitS s.data.toList = (false, false, [], 1)) :
    bodyPostM Fence.wide 3 Tryz.prog Tryz.f243 (splitPost s w0) .ret { tmps := T, defers := [{ target := .collected (w0.heap.size + 5), args := #[] }] }
      ((((W.setCell ⟨w0.heap.size, 0, none⟩ (.bool false)).setCell ⟨w0.heap.size, 1, none⟩ (.slice none 0 0)).setCell ⟨w0.heap.size, 2, none⟩ (.bool false)).setCell ⟨w0.heap.size + 1, 0, none⟩ (.int .i64 1)) := by
  obtain ⟨W5, hW5⟩ : ∃ W5, ((((W.setCell ⟨w0.heap.size, 0, none⟩ (.bool false)).setCell ⟨w0.heap.size, 1, none⟩ (.slice none 0 0)).setCell ⟨w0.heap.size, 2, none⟩ (.bool false)).setCell ⟨w0.heap.size + 1, 0, none⟩ (.int .i64 1)) = W5 := ⟨_, rfl⟩
  have b5 : Below w0.heap.size W W5 := by rw [← hW5]; exact ((((Below.refl _ _).setCell (by simp) _).setCell (by simp) _).setCell (by simp) _).setCell (by simp) _
  have r5 : W5.heap[w0.heap.size]? = some (.cells #[.bool false, .slice none 0 0, .bool false] 214 (0, 0)) := by
    rw [← hW5]; exact set_other (set_same (set_same (set_same h.res _) _) _) _ (by omega)
  have e5 : W5.heap[w0.heap.size + 1]? = some (.cells #[.int .i64 1] 29 (0, 0)) := by
    rw [← hW5]; exact set_same (set_other (set_other (set_other h.err _ (by omega)) _ (by omega)) _ (by omega)) _
  have d5 : W5.heap[w0.heap.size + 5]? = some (.deferred (some [])) := by
    rw [← hW5]; exact set_other (set_other (set_other (set_other h.dfr _ (by omega)) _ (by omega)) _ (by omega)) _ (by omega)
  rw [hW5]
  exact leave12 w0.heap.size hT2 hT3 r5 e5 d5 ⟨none, 0, 0, rfl⟩ ⟨false, false, .slice none 0 0, [], 1, rfl, ⟨rfl, .inl ⟨rfl, rfl⟩⟩, h.below.trans (b5.trans ⟨rfl, rfl, rfl, by simp, fun k hk => World.putObj_heap_other (by omega)⟩), hs⟩

set_option maxRecDepth 100000 in
set_option maxHeartbeats 2000000 in
theorem split_main (s : ByteArray) (w : World) (h0 : ¬ s.data.toList = []) (hs : s.size ≤ 128) : Calls Tryz.prog 243 #[.string s] w (splitPost s w) := by
  refine (callsIn_wide (n := 3)).1 (callsIn_of_wp_marks Tryz.func243 rfl trivial ?_ rfl)
  simp only [Tryz.ntmps243, List.size_toArray, List.length_cons, List.length_nil, Nat.reduceAdd, Nat.reduceSub, Array.replicate_succ, Array.replicate_zero, List.push_toArray, List.append_toArray, List.nil_append, List.cons_append]
  have h1 : s.toList.isEmpty = false := by rw [toList_data]; cases hh : s.data.toList with | nil => exact absurd hh h0 | cons => rfl
  have hs1 : (s.size : Int) ≤ 128 := by omega
  have H0 := Lib.hid h0
  obtain ⟨i0, hi, hz0, hz1, hz2⟩ := info_parts info9
  clear h0
  gi_wp2_with fail
  refine ⟨trivial, ?_⟩
  refine (callsIn_wide.2 (Tryz.strings_HasPrefix _ _ _)).mono ?_
  rintro e w' ⟨rfl, rfl⟩
  gi_wp2_with fail
  refine ⟨trivial, ?_⟩
  refine (callsIn_wide.2 (Tryz.strings_HasSuffix _ _ _ (by omega))).mono ?_
  rintro e w' ⟨rfl, rfl⟩
  gi_wp2_with fail
  refine ⟨trivial, ?_⟩
  refine (callsIn_wide.2 (mk_names _ _)).mono ?_
  rintro e w' ⟨rfl, rfl⟩
  gi_wp2_with fail
  obtain ⟨W, hW⟩ : ∃ W, (((((w.alloc (.cells #[.bool false, .slice none 0 0, .bool false] 214)).alloc (.cells #[.int .i64 0] 29)).alloc (.cells #[.bool (Lib.hasPrefix s.data.toList [47]), .slice none 0 0, .bool (Lib.hasSuffix s.data.toList [47])] 214)).alloc (.cells #[.string ⟨#[]⟩] 9)).alloc (.cells #[.string s] 9)) = W := ⟨_, rfl⟩
  have hWs : W.heap.size = w.heap.size + 5 := by rw [← hW]; simp
  rw [hW]
  refine range_names W (.pointer (some ⟨w.heap.size + 4, 0, none⟩)) rfl (fun fn => ?_)
  rw [hWs]
  refine (iter_calls w s hs (Lib.hasPrefix s.data.toList [47]) (Lib.hasSuffix s.data.toList [47]) _ ?_ _ ?_ ?_ ?_).mono ?_
  rotate_left
  · rw [← hW]
    have h7 := push7 w.heap
    refine ⟨(((((((Below.refl _ _).alloc (Nat.le_refl _) _).alloc (by simp) _).alloc (by simp; omega) _).alloc (by simp; omega) _).alloc (by simp; omega) _).alloc (by simp; omega) _).alloc (by simp; omega) _, ?_, ?_, ⟨.slice none 0 0, ?_, ⟨rfl, .inl ⟨rfl, rfl⟩⟩⟩, ?_, ?_, ?_, by simp⟩
    · exact (h7 _ _ _ _ _ _ _).1
    · exact (h7 _ _ _ _ _ _ _).2.1
    · exact (h7 _ _ _ _ _ _ _).2.2.1
    · exact (h7 _ _ _ _ _ _ _).2.2.2.1
    · exact (h7 _ _ _ _ _ _ _).2.2.2.2.2.1
    · exact (h7 _ _ _ _ _ _ _).2.2.2.2.2.2
  · rw [← hW]
    exact (push7 w.heap _ _ _ _ _ _ _).2.2.2.2.1
  · intro pre x W2 hSI hsh hx hx1 hlen
    refine roundIn_of_wpIn trivial ?_
    dsimp only
    gi_wp2
    refine begin_round hSI rfl (fun W3 hS3 hb3 => ?_)
    obtain ⟨v, hpv, hown⟩ := hS3.p
    have r0 : W3.cell? ⟨w.heap.size, 0, none⟩ = some (.bool false) := heap_cell hS3.res 0
    have r1 : W3.cell? ⟨w.heap.size, 1, none⟩ = some (.slice none 0 0) := heap_cell hS3.res 1
    have r2 : W3.cell? ⟨w.heap.size, 2, none⟩ = some (.bool false) := heap_cell hS3.res 2
    have rf : ∀ i, W3.frozen? ⟨w.heap.size, i, none⟩ = false := heap_free hS3.res
    have e0 : W3.cell? ⟨w.heap.size + 1, 0, none⟩ = some (.int .i64 0) := heap_cell hS3.err 0
    have ef : W3.frozen? ⟨w.heap.size + 1, 0, none⟩ = false := heap_free hS3.err 0
    have p1 : W3.cell? ⟨w.heap.size + 1 + 1, 1, none⟩ = some v := heap_cell hpv 1
    have pf : W3.frozen? ⟨w.heap.size + 1 + 1, 1, none⟩ = false := heap_free hpv 1
    have l0 : W3.cell? ⟨w.heap.size + 1 + 1 + 1, 0, none⟩ = some (.string (lastOf pre)) := heap_cell hS3.last 0
    have lf : W3.frozen? ⟨w.heap.size + 1 + 1 + 1, 0, none⟩ = false := heap_free hS3.last 0
    have HS := Lib.hid hS3
    have HO := Lib.hid hown
    have HPV := Lib.hid hpv
    have HB3 := Lib.hid hb3
    have HX := Lib.hid hx
    have HSH := Lib.hid hsh
    clear hS3 hown hpv hb3 hx hSI hsh
    by_cases hl : 14 < x.size
    · have hl1 : (14 : Int) < x.size := by omega
      gi_wp2
      exact HS.out.stopped HX.out hl
    · have hl1 : ¬ (14 : Int) < x.size := by omega
      by_cases hd : x.data.toList = [46]
      · have hd1 : x.toList = [46] := by rw [toList_data]; exact hd
        have HD := Lib.hid hd
        clear hd
        gi_wp2
        exact (HS.out.lastSet (kept_no pre x HD.out)).goes rfl rfl (short_app HSH.out hl) ((Below.heap_setCell _ _ _ _ (by simp)).trans HB3.out)
      · have hd1 : (x.toList == [46]) = false := by rw [toList_data]; simpa using hd
        have HD := Lib.hid hd
        clear hd
        have hkl := kept_len pre
        have HO2 := Lib.hid (SI.own2 HO.out x)
        gi_wp2_with (gi_at_builtin; refine wpListIn_append_own _ rfl _ _ 22 rfl (w.heap.size + 7) 9 i0 (.string ByteArray.empty) 1 16 Tryz.underlying22 hi hz0 hz1 hz2 rfl (by decide) _ _ _ rfl (HO2.out.alloc _) ⟨W3.heap.size, 0, none⟩ 1 1 [.string x] rfl rfl (cell_one_set _ _ _ _) (by simp [Value.oneCell']) (by unfold maxLen; omega) (by omega) (by have := HS.out.size; simp; omega) ?_; intro v' w1 hown' hgrow _; obtain ⟨g', cap', rfl⟩ := ownsRow_succ hown'; have hq := p_kept HPV.out HS.out.size (own_ge HO.out) hgrow; have q1 := hq.1; have qf := hq.2; clear hq)
        obtain ⟨ha, hb⟩ := HS.out.appended (kept_yes pre x HD.out) HPV.out (own_ge HO.out) hgrow hown'
        exact ha.goes rfl rfl (short_app HSH.out hl) (hb.trans HB3.out)
  · rintro e W2 ⟨⟨v0, rfl⟩, (⟨xs, hxs, hSI, hsh⟩ | hstop)⟩
    · refine end_loop hSI rfl rfl (fun W4 hS4 => ?_)
      have HXS := Lib.hid hxs
      have HSH := Lib.hid hsh
      clear hxs hsh hSI W2 hW
      obtain ⟨v, hpv, hown⟩ := hS4.p
      obtain ⟨sa, sl, sc, rfl⟩ : ∃ a n c, v = .slice a n c := by
        obtain ⟨_, ⟨h2, _⟩ | ⟨g, cap, cur, h2, _⟩⟩ := hown
        · exact ⟨_, _, _, h2⟩
        · exact ⟨_, _, _, h2⟩
      have r0 : W4.cell? ⟨w.heap.size, 0, none⟩ = some (.bool false) := heap_cell hS4.res 0
      have r1 : W4.cell? ⟨w.heap.size, 1, none⟩ = some (.slice none 0 0) := heap_cell hS4.res 1
      have r2 : W4.cell? ⟨w.heap.size, 2, none⟩ = some (.bool false) := heap_cell hS4.res 2
      have rf : ∀ i, W4.frozen? ⟨w.heap.size, i, none⟩ = false := heap_free hS4.res
      have e0 : W4.cell? ⟨w.heap.size + 1, 0, none⟩ = some (.int .i64 0) := heap_cell hS4.err 0
      have ef : W4.frozen? ⟨w.heap.size + 1, 0, none⟩ = false := heap_free hS4.err 0
      have p0 : W4.cell? ⟨w.heap.size + 1 + 1, 0, none⟩ = some (.bool (Lib.hasPrefix s.data.toList [47])) := heap_cell hpv 0
      have p1 : W4.cell? ⟨w.heap.size + 1 + 1, 1, none⟩ = some (.slice sa sl sc) := heap_cell hpv 1
      have p2 : W4.cell? ⟨w.heap.size + 1 + 1, 2, none⟩ = some (.bool (Lib.hasSuffix s.data.toList [47])) := heap_cell hpv 2
      have pf : ∀ i, W4.frozen? ⟨w.heap.size + 1 + 1, i, none⟩ = false := heap_free hpv
      have l0 : W4.cell? ⟨w.heap.size + 1 + 1 + 1, 0, none⟩ = some (.string (lastOf xs)) := heap_cell hS4.last 0
      have HS := Lib.hid hS4
      have HO := Lib.hid hown
      have HPV := Lib.hid hpv
      clear hS4 hown hpv
      gi_wp2_with fail
      refine ⟨trivial, ?_⟩
      refine (callsIn_wide.2 (plain_any _ _ (by omega))).mono ?_
      rintro e w' ⟨rfl, rfl⟩
      by_cases hp : plainB s.data.toList = true
      · have HF := Lib.hid (split_ok H0.out hs HXS.out HSH.out hp)
        by_cases hd : Lib.hasSuffix s.data.toList [47] = true
        · have HF2 := Lib.hid (HF.out.trans (by rw [hd]; simp : _ = (Lib.hasPrefix s.data.toList [47], true, (kept xs).map (fun x : ByteArray => x.data.toList), (0 : Int))))
          gi_wp2
          exact HS.out.final ⟨_, _, _, rfl⟩ HO.out rfl rfl true HF2.out
        · replace hd : Lib.hasSuffix s.data.toList [47] = false := by simpa using hd
          by_cases hl1 : (lastOf xs).data.toList = [46]
          · have hm1 : (lastOf xs).toList = [46] := by rw [toList_data]; exact hl1
            have HF2 := Lib.hid (HF.out.trans (by rw [hd, hl1]; simp : _ = (Lib.hasPrefix s.data.toList [47], true, (kept xs).map (fun x : ByteArray => x.data.toList), (0 : Int))))
            clear hl1
            gi_wp2
            exact HS.out.final ⟨_, _, _, rfl⟩ HO.out rfl rfl true HF2.out
          · have hm1 : ((lastOf xs).toList == [46]) = false := by rw [toList_data]; simpa using hl1
            by_cases hl2 : (lastOf xs).data.toList = [46, 46]
            · have hm2 : (lastOf xs).toList = [46, 46] := by rw [toList_data]; exact hl2
              have HF2 := Lib.hid (HF.out.trans (by rw [hd, hl2]; simp : _ = (Lib.hasPrefix s.data.toList [47], true, (kept xs).map (fun x : ByteArray => x.data.toList), (0 : Int))))
              clear hl1 hl2
              gi_wp2
              exact HS.out.final ⟨_, _, _, rfl⟩ HO.out rfl rfl true HF2.out
            · have hm2 : ((lastOf xs).toList == [46, 46]) = false := by rw [toList_data]; simpa using hl2
              have HF2 := Lib.hid (HF.out.trans (by rw [hd]; simp [hl1, hl2] : _ = (Lib.hasPrefix s.data.toList [47], false, (kept xs).map (fun x : ByteArray => x.data.toList), (0 : Int))))
              clear hl1 hl2
              gi_wp2
              exact HS.out.final ⟨_, _, _, rfl⟩ HO.out rfl rfl false HF2.out
      · replace hp : plainB s.data.toList = false := by simpa using hp
        have HF := Lib.hid (split_bad H0.out hs HXS.out HSH.out hp)
        gi_wp2
        exact HS.out.failed rfl rfl HF.out
    · obtain ⟨q1, q2, q3, q4, q5, q6⟩ := hstop
      refine ⟨some .ret, _, run_endLoop q5 (by simp), ?_⟩
      have HF := Lib.hid (split_long H0.out (.inr q6))
      gi_wp2
      exact leave12 w.heap.size rfl rfl ((World.putObj_heap_other (by omega)).trans q2) ((World.putObj_heap_other (by omega)).trans q3) ((World.putObj_heap_other (by omega)).trans q4) ⟨none, 0, 0, rfl⟩ ⟨false, false, .slice none 0 0, [], 10, rfl, ⟨rfl, .inl ⟨rfl, rfl⟩⟩, below_put (below_put q1 (by omega)) (by omega), HF.out⟩
  · rfl
end Go.Proofs.Pw.Pp
namespace Go.Proofs.Pw.Pp
open Go.RowKit

set_option maxHeartbeats 400000 in
theorem split_any (s : ByteArray) (w : World) (hs : s.size ≤ 140737488351232) : Calls Tryz.prog 243 #[.string s] w (splitPost s w) := by
  by_cases h0 : s.data.toList = []
  · have h1 : s.toList = [] := by rw [toList_data]; exact h0
    have HF : Hid (splitS s.data.toList = (false, false, [], 3)) := Lib.hid (by rw [splitS, if_pos h0])
    clear h0
    go_enter Tryz.func243, Tryz.ntmps243
    go_wp2
    exact bodyPost_ret (v := .tuple #[.agg #[.bool false, .slice none 0 0, .bool false], .int .i64 3]) (by simp [results, Tryz.results161, go_sem]) rfl ⟨false, false, .slice none 0 0, [], 3, rfl, ⟨rfl, .inl ⟨rfl, rfl⟩⟩, ((Below.refl _ _).alloc (Nat.le_refl _) _).alloc (by simp) _, HF.out⟩
  · by_cases hb : s.size ≤ 128
    · exact split_main s w h0 hb
    · have h1 : s.toList.isEmpty = false := by rw [toList_data]; cases hh : s.data.toList with | nil => exact absurd hh h0 | cons => rfl
      have hb1 : (128 : Int) < s.size := by omega
      have HF : Hid (splitS s.data.toList = (false, false, [], 10)) := Lib.hid (split_long h0 (.inl (by rw [sz]; omega)))
      clear h0
      go_enter Tryz.func243, Tryz.ntmps243
      go_wp2
      exact bodyPost_ret (v := .tuple #[.agg #[.bool false, .slice none 0 0, .bool false], .int .i64 10]) (by simp [results, Tryz.results161, go_sem]) rfl ⟨false, false, .slice none 0 0, [], 10, rfl, ⟨rfl, .inl ⟨rfl, rfl⟩⟩, ((Below.refl _ _).alloc (Nat.le_refl _) _).alloc (by simp) _, HF.out⟩
end Go.Proofs.Pw.Pp
/- A field is read: Cut, Trim, ParseUint at base 16. -/
namespace Go.Proofs.Pw.Mx
open Go.RowKit

theorem low_bits : ∀ j : Fin 6, bits .or .u8 ((97 + j.val : Nat) : Int) 32 = ((97 + j.val : Nat) : Int) := by decide
theorem low_any (c : Nat) (h : 97 ≤ c) (h2 : c ≤ 102) (w : World) : Calls Tryz.prog 182 #[.int .u8 c] w fun e w' => e = .returned (.int .u8 c) ∧ w' = w := by
  have hb : bits .or .u8 (c : Int) 32 = (c : Int) := by
    have := low_bits ⟨c - 97, by omega⟩
    rw [show 97 + (c - 97) = c by omega] at this
    exact this
  go_enter Tryz.func182, Tryz.ntmps182
  go_wp2
  go_ret
  exact ⟨rfl, rfl⟩

theorem bytes_below (w : World) (t : ByteArray) : Below w.heap.size w (Lib.bytesWorld w 5 t) := by
  exact ⟨rfl, rfl, rfl, by rw [Lib.bytesWorld_size]; omega, fun j hj => Lib.bytesWorld_at_old w 5 t j hj⟩
theorem hex_kind {c : UInt8} (h : isHex c = true) : (48 ≤ c.toNat ∧ c.toNat ≤ 57 ∧ val c = c.toNat - 48) ∨ (97 ≤ c.toNat ∧ c.toNat ≤ 102 ∧ val c = c.toNat - 87) := by
  unfold isHex at h; unfold val
  simp at h
  rcases h with h | h
  · left; rw [if_pos h.2]; omega
  · right; rw [if_neg (by omega)]; omega

set_option maxHeartbeats 2000000 in
set_option maxRecDepth 100000 in
theorem ipu_any (t : ByteArray) (ht : t.size = 4) (hx : t.data.toList.all isHex = true) (w : World) :
    Calls Tryz.prog 152 #[.string t, .int .i64 16, .int .i64 16] w fun e w' => e = .returned (.tuple #[.int .u64 (readN t.data.toList), .nilIface]) ∧ Below w.heap.size w w' := by
  have hemp : t.toList.isEmpty = false := by
    rw [← decide_eq_emptyBytes]
    exact decide_eq_false (fun h => by rw [h] at ht; cases ht)
  have hcv := Lib.run_convert_string_bytes (P := Tryz.prog) w 9 59 5 t (u := .string) Tryz.underlying9 Tryz.underlying59 Tryz.underlying5
  have hB : ∀ j, j < t.size → (Lib.bytesWorld w 5 t).cell? ⟨w.heap.size, j, none⟩ = some (.int .u8 (t.data.toList.getD j 0).toNat) := fun j hj => Lib.bytesWorld_cell w 5 t j hj
  have hbel : Below w.heap.size w (Lib.bytesWorld w 5 t) := bytes_below w t
  have hmv : IntKind.u64.wrap (IntKind.u64.wrap 65536 - 1) = 65535 := by
    rw [IntKind.wrap_u64, IntKind.wrap_u64]
    decide
  obtain ⟨W1, hW1⟩ : ∃ W1, W1 = Lib.bytesWorld w 5 t := ⟨_, rfl⟩
  rw [← hW1] at hcv hB hbel
  clear hW1
  obtain ⟨bs, hL⟩ : ∃ bs, bs = t.data.toList := ⟨_, rfl⟩
  have hLn : bs.length = 4 := by rw [hL, ← ht]; simp
  rw [← hL] at hB hx
  rw [← hL]
  clear hL
  have HB := Lib.hid hB
  have HX := Lib.hid hx
  have HBEL := Lib.hid hbel
  clear hB hx hbel
  rw [ht] at hcv
  have HT := Lib.hid ht
  have HLN := Lib.hid hLn
  clear ht hLn
  go_enter Tryz.func152, Tryz.ntmps152
  go_wp2
  go_loopw [12, 13, 15, 16, 17, 101] (fun vu vn vc vd v1 vi wr => ∃ (k acc : Nat) (a : Int), vu = .bool false ∧ vn = .int .u64 a ∧ vi = .int .i64 k ∧ k ≤ 4 ∧ wr = W1 ∧ Hid (a = (acc : Int) ∧ acc = readN (bs.take k) ∧ acc < 16 ^ k)) (fun vu vn vc vd v1 vi _ => 4 - (intOf vi).toNat)
  case atStart => exact ⟨0, 0, 0, rfl, rfl, rfl, by omega, rfl, Lib.hid ⟨rfl, rfl, by decide⟩⟩
  case round =>
    obtain ⟨k, acc, a, rfl, rfl, rfl, hk, rfl, HA⟩ := hrel
    by_cases hkn : k < 4
    · have hk1 : (k : Int) < 4 := by omega
      have hc := HB.out k (by rw [HT.out]; exact hkn)
      have hlk : k < bs.length := by rw [HLN.out]; exact hkn
      have hget : bs.getD k 0 = bs[k]'hlk := by simp [List.getD, List.getElem?_eq_getElem hlk]
      rw [hget] at hc
      have htk : bs.take (k + 1) = bs.take k ++ [bs[k]'hlk] := by rw [List.take_succ_eq_append_getElem hlk]
      have hhx : isHex (bs[k]'hlk) = true := List.all_eq_true.1 HX.out _ (List.getElem_mem _)
      generalize bs[k]'hlk = c at hc htk hhx
      have hval := val_lt hhx
      have hacc3 : acc < 4096 := by
        have h16 : 16 ^ k ≤ 16 ^ 3 := Nat.pow_le_pow_right (by decide) (by omega)
        have := HA.out.2.2
        omega
      have hnext : acc * 16 + val c = readN (bs.take (k + 1)) := by rw [htk, readN_app, ← HA.out.2.1]; omega
      have hpow : acc * 16 + val c < 16 ^ (k + 1) := by have := HA.out.2.2; rw [Nat.pow_succ]; omega
      have a0 : 0 ≤ a := by rw [HA.out.1]; omega
      have a1 : a ≤ 4095 := by rw [HA.out.1]; omega
      rcases hex_kind hhx with ⟨h1, h2, h3⟩ | ⟨h1, h2, h3⟩
      · have d1 : (48 : Int) ≤ c.toNat := by omega
        have d2 : (c.toNat : Int) ≤ 57 := by omega
        have HN : Hid (a * 16 + ((c.toNat : Int) - 48) = ((acc * 16 + val c : Nat) : Int) ∧ acc * 16 + val c = readN (bs.take (k + 1)) ∧ acc * 16 + val c < 16 ^ (k + 1)) := Lib.hid ⟨by rw [HA.out.1]; omega, hnext, hpow⟩
        clear hhx h1 h2 h3 hval hacc3 hnext hpow htk hget hlk
        go_wp2
        go_roundw
        case rel => exact ⟨k + 1, _, _, rfl, rfl, by go_num, by omega, trivial, HN⟩
        case measure => simp [intOf]; omega
      · have d1 : (97 : Int) ≤ c.toNat := by omega
        have d2 : (c.toNat : Int) ≤ 102 := by omega
        have HN : Hid (a * 16 + ((c.toNat : Int) - 97 + 10) = ((acc * 16 + val c : Nat) : Int) ∧ acc * 16 + val c = readN (bs.take (k + 1)) ∧ acc * 16 + val c < 16 ^ (k + 1)) := Lib.hid ⟨by rw [HA.out.1]; omega, hnext, hpow⟩
        have HL1 := Lib.hid h1
        have HL2 := Lib.hid h2
        clear hhx h1 h2 h3 hval hacc3 hnext hpow htk hget hlk
        go_wp2_with (go_at_call 182; refine (low_any _ HL1.out HL2.out _).mono ?_; rintro e w' ⟨rfl, rfl⟩)
        go_roundw
        case rel => exact ⟨k + 1, _, _, rfl, rfl, by go_num, by omega, trivial, HN⟩
        case measure => simp [intOf]; omega
    · have hk1 : ¬ (k : Int) < 4 := by omega
      have HF : Hid (a = readN bs) := Lib.hid (by rw [HA.out.1, HA.out.2.1, List.take_of_length_le (by rw [HLN.out]; omega)])
      clear hk hkn
      go_wp2
      exact bodyPost_ret (v := .tuple #[.int .u64 a, .nilIface]) (by simp [results, Tryz.results169, go_sem]) rfl ⟨by rw [HF.out], HBEL.out⟩
end Go.Proofs.Pw.Mx
/- A field is read. -/
namespace Go.Proofs.Pw.Mx
open Go.RowKit

theorem pu_any (t : ByteArray) (ht : t.size = 4) (hx : t.data.toList.all isHex = true) (w : World) :
    Calls Tryz.prog 109 #[.string t, .int .i64 16, .int .i64 16] w fun e w' => e = .returned (.tuple #[.int .u64 (readN t.data.toList), .nilIface]) ∧ Below w.heap.size w w' := by
  have hc := ipu_any t ht hx
  clear hx ht
  generalize readN t.data.toList = R at *
  go_enter Tryz.func109, Tryz.ntmps109
  go_wp2_with fail
  refine (hc _).mono ?_
  rintro e w' ⟨rfl, hb⟩
  have HB := Lib.hid hb
  clear hb hc
  go_wp2
  exact bodyPost_ret (v := .tuple #[.int .u64 R, .nilIface]) (by simp [results, Tryz.results195, go_sem]) rfl ⟨rfl, HB.out⟩

def hexset : Bytes := [48, 49, 50, 51, 52, 53, 54, 55, 56, 57, 97, 98, 99, 100, 101, 102]
theorem hexset0 : ∀ j : Fin 256, hexset.contains (UInt8.ofNat j.val) = isHex (UInt8.ofNat j.val) := by decide +kernel
theorem hexset_is (c : UInt8) : hexset.contains c = isHex c := by
  have := hexset0 ⟨c.toNat, c.toNat_lt⟩
  simpa using this
theorem drop_all {p : UInt8 → Bool} {l : Bytes} (h : ∀ x ∈ l.dropWhile p, p x = true) : ∀ x ∈ l, p x = true := by
  induction l with
  | nil => intro x hx; cases hx
  | cons a l ih =>
    intro x hx
    by_cases ha : p a = true
    · rw [List.dropWhile_cons_of_pos ha] at h
      rcases List.mem_cons.1 hx with rfl | hx
      · exact ha
      · exact ih h x hx
    · rw [List.dropWhile_cons_of_neg ha] at h
      exact absurd (h a (by simp)) ha
theorem dw_nil {p : UInt8 → Bool} : ∀ {l : Bytes}, l.dropWhile p = [] ↔ ∀ x ∈ l, p x = true
  | [] => by simp
  | a :: l => by
    by_cases ha : p a = true
    · rw [List.dropWhile_cons_of_pos ha, dw_nil]; simp [ha]
    · rw [List.dropWhile_cons_of_neg ha]; simp [ha]
theorem trim_nil (l : Bytes) : Lib.trimS l hexset = [] ↔ l.all isHex = true := by
  unfold Lib.trimS Lib.trimLeftS Lib.trimRightS
  have hp : (fun x => hexset.contains x) = isHex := funext hexset_is
  show List.dropWhile (fun x => hexset.contains x) (List.dropWhile (fun x => hexset.contains x) l.reverse).reverse = [] ↔ _
  rw [hp, dw_nil, List.all_eq_true]
  constructor
  · intro h x hx
    have h2 : ∀ x ∈ l.reverse.dropWhile isHex, isHex x = true := fun x hx => h x (List.mem_reverse.2 hx)
    exact drop_all h2 x (List.mem_reverse.2 hx)
  · intro h x hx
    exact h x (List.mem_reverse.1 ((List.dropWhile_sublist isHex).subset (List.mem_reverse.1 hx)))
theorem trim_any (s : ByteArray) (w : World) (hs : s.size ≤ 1000000000000000000) :
    Calls Tryz.prog 180 #[.string s, .string ⟨#[48, 49, 50, 51, 52, 53, 54, 55, 56, 57, 97, 98, 99, 100, 101, 102]⟩] w fun e w' => ∃ t : ByteArray, e = .returned (.string t) ∧ (t = ⟨#[]⟩ ↔ s.data.toList.all isHex = true) ∧ Below w.heap.size w w' := by
  refine (Any.strings_Trim_laid Tryz.lays160 (by kernel_rfl) s ⟨#[48, 49, 50, 51, 52, 53, 54, 55, 56, 57, 97, 98, 99, 100, 101, 102]⟩ w (by omega) (by decide) (ascii_of_all (by decide))).mono ?_
  rintro e w' ⟨rfl, hb⟩
  refine ⟨_, rfl, ?_, hb⟩
  rw [← trim_nil]
  constructor
  · intro h
    have := congrArg (fun b : ByteArray => b.data.toList) h
    simp at this
    exact this
  · intro h
    show (⟨(Lib.trimS s.data.toList hexset).toArray⟩ : ByteArray) = _
    rw [h]

theorem split_uniq : ∀ {a h b t : Bytes}, a ++ 36 :: b = h ++ 36 :: t → (36 : UInt8) ∉ a → (36 : UInt8) ∉ h → a = h ∧ b = t
  | [], [], b, t, e, _, _ => by simpa using e
  | [], x :: h, b, t, e, _, hh => by
    simp only [List.nil_append, List.cons_append, List.cons.injEq] at e
    exact absurd (by rw [← e.1]; simp) hh
  | y :: a, [], b, t, e, ha, _ => by
    simp only [List.nil_append, List.cons_append, List.cons.injEq] at e
    exact absurd (by rw [e.1]; simp) ha
  | y :: a, x :: h, b, t, e, ha, hh => by
    simp only [List.cons_append, List.cons.injEq] at e
    obtain ⟨h1, h2⟩ := split_uniq e.2 (fun hm => ha (by simp [hm])) (fun hm => hh (by simp [hm]))
    exact ⟨by rw [e.1, h1], h2⟩
theorem hex_no36 {l : Bytes} (h : l.all isHex = true) : (36 : UInt8) ∉ l := fun hm => by
  have := List.all_eq_true.1 h _ hm
  rw [not_hex_dollar] at this; cases this
theorem field_iff {f a b : Bytes} (h : f = a ++ 36 :: b) (ha : (36 : UInt8) ∉ a) : isField f ↔ a.length = 4 ∧ b.length = 16 ∧ (a ++ b).all isHex = true := by
  constructor
  · rintro ⟨x, y, he, h1, h2, h3, h4⟩
    obtain ⟨rfl, rfl⟩ := split_uniq (h.symm.trans he) ha (hex_no36 h3)
    exact ⟨h1, h2, by rw [List.all_append, h3, h4]; rfl⟩
  · rintro ⟨h1, h2, h3⟩
    rw [List.all_append, Bool.and_eq_true] at h3
    exact ⟨a, b, h, h1, h2, h3.1, h3.2⟩
theorem belowN {n : Nat} {w W : World} (h : Below n w W) (k : Nat) : Below n w (W.drewN k) := h.trans ⟨rfl, rfl, rfl, Nat.le_refl _, fun _ _ => rfl⟩
/-- What a field tells: its salt, if it is one. -/
def ReadPost (f : ByteArray) (w : World) (e : Ending) (w' : World) : Prop :=
  ∃ (n : Nat) (ok : Bool), e = .returned (.tuple #[.int .i64 n, .bool ok]) ∧ Below w.heap.size w w' ∧ (ok = true ↔ isField f.data.toList) ∧ (ok = true → n = readN (f.data.toList.take 4) ∧ n < 65536)

set_option maxHeartbeats 1000000 in
theorem read_any (f : ByteArray) (w : World) (hf : f.size ≤ 140737488351232) : Calls Tryz.prog 150 #[.string f] w (ReadPost f w) := by
  go_enter Tryz.func150, Tryz.ntmps150
  go_wp2_with fail
  refine (cut_any 36 f _ hf).mono ?_
  rintro e w' ⟨a, b, ok, rfl, ⟨k, rfl⟩, h1, h2, h3⟩
  have H3 := Lib.hid h3
  clear h3
  have fin : ∀ (T : Array Value) (W : World), T[2]? = some (.int .i64 0) → T[3]? = some (.bool false) → Below w.heap.size w W → ¬ isField f.data.toList →
      bodyPost Tryz.prog Tryz.f150 (ReadPost f w) Exit.ret { tmps := T, defers := [] } W := fun T W h2 h3 hb hn =>
    bodyPost_ret (v := .tuple #[.int .i64 0, .bool false]) (by simp [results, Tryz.results108, go_sem, h2, h3]) rfl ⟨0, false, rfl, hb, ⟨fun h => Bool.noConfusion h, fun h => absurd h hn⟩, fun h => Bool.noConfusion h⟩
  have FIN := Lib.hid fin
  clear fin
  cases ok with
  | false =>
    go_wp2
    refine FIN.out _ _ rfl rfl (belowN (Below.refl _ _) k) ?_
    rcases H3.out with ⟨h, _⟩ | ⟨_, h, _⟩
    · cases h
    · rintro ⟨x, y, he, -⟩
      rw [he] at h
      exact h (by simp)
  | true =>
    have hsp : f.data.toList = a.data.toList ++ 36 :: b.data.toList ∧ (36 : UInt8) ∉ a.data.toList := by
      rcases H3.out with ⟨_, h⟩ | ⟨h, _⟩
      · exact h
      · cases h
    have HI := Lib.hid (field_iff hsp.1 hsp.2)
    have HSP := Lib.hid hsp
    clear hsp H3
    by_cases ha : a.size = 4
    · by_cases hb : b.size = 16
      · go_wp2_with fail
        refine (trim_any (a ++ b) _ (by rw [ByteArray.size_append]; omega)).mono ?_
        rintro e w2 ⟨t, rfl, ht, hb2⟩
        have HB2 := Lib.hid ((belowN (Below.refl w.heap.size w) k).trans (hb2.mono (Nat.le_refl _)))
        rw [ByteArray.data_append, Array.toList_append] at ht
        have HT := Lib.hid ht
        clear ht hb2
        by_cases hx : (a.data.toList ++ b.data.toList).all isHex = true
        · have htt : t.toList.isEmpty = true := by
            rw [← decide_eq_emptyBytes]
            exact decide_eq_true (HT.out.2 hx)
          have hfield : isField f.data.toList := HI.out.2 ⟨by rw [sz]; exact ha, by rw [sz]; exact hb, hx⟩
          have hxa : a.data.toList.all isHex = true := by rw [List.all_append, Bool.and_eq_true] at hx; exact hx.1
          have hta : f.data.toList.take 4 = a.data.toList := by rw [HSP.out.1, List.take_append_of_le_length (by rw [sz, ha]; omega), List.take_of_length_le (by rw [sz, ha]; omega)]
          have hlt : readN a.data.toList < 65536 := by
            have := readN_lt _ hxa
            rw [sz, ha] at this
            exact this
          have hpu := pu_any a ha hxa
          have HFI := Lib.hid hfield
          have HTA : Hid (readN a.data.toList = readN (f.data.toList.take 4)) := Lib.hid (by rw [hta])
          clear hx hfield hxa hta
          generalize readN a.data.toList = R at *
          have hr1 : (R : Int) ≤ 65535 := by omega
          go_wp2_with fail
          refine (hpu _).mono ?_
          rintro e w3 ⟨rfl, hb3⟩
          have HB3 := Lib.hid (HB2.out.trans (hb3.mono HB2.out.size))
          clear hb3 hpu
          go_wp2_with fail
          go_region
          go_wp2
          exact bodyPost_ret (v := .tuple #[.int .i64 R, .bool true]) (by simp [results, Tryz.results108, go_sem]) rfl ⟨R, true, rfl, belowN HB3.out 1, ⟨fun _ => HFI.out, fun _ => rfl⟩, fun _ => ⟨HTA.out, by omega⟩⟩
        · have htt : t.toList.isEmpty = false := by
            rw [← decide_eq_emptyBytes]
            exact decide_eq_false fun h => hx (HT.out.1 h)
          have HX := Lib.hid hx
          clear hx
          go_wp2
          exact FIN.out _ _ rfl rfl HB2.out (fun h => HX.out (HI.out.1 h).2.2)
      · have hb1 : ¬ (b.size : Int) = 16 := by omega
        have HB := Lib.hid hb
        clear hb
        go_wp2
        exact FIN.out _ _ rfl rfl (belowN (Below.refl _ _) k) (fun h => HB.out (by rw [← sz]; exact (HI.out.1 h).2.1))
    · have ha1 : ¬ (a.size : Int) = 4 := by omega
      have HA := Lib.hid ha
      clear ha
      go_wp2
      exact FIN.out _ _ rfl rfl (belowN (Below.refl _ _) k) (fun h => HA.out (by rw [← sz]; exact (HI.out.1 h).1))
def RightP (f : ByteArray) : Prop := f.data.toList = [] ∨ f.data.toList = [42] ∨ isField f.data.toList
theorem data_eq {s t : ByteArray} : s = t ↔ s.data.toList = t.data.toList := ⟨fun h => by rw [h], fun h => by apply ByteArray.ext; apply Array.ext'; exact h⟩
theorem toList_data (s : ByteArray) : s.toList = s.data.toList := Lib.toList_data s
theorem emp_iff (s : ByteArray) : s.toList.isEmpty = true ↔ s.data.toList = [] := by rw [toList_data, List.isEmpty_iff]

theorem emp_no {s : ByteArray} (h : ¬ s.data.toList = []) : s.toList.isEmpty = false := by
  cases hh : s.toList.isEmpty with
  | false => rfl
  | true => exact absurd ((emp_iff s).1 hh) h
set_option maxHeartbeats 1000000 in
theorem right_any (f : ByteArray) (w : World) (hf : f.size ≤ 140737488351232) :
    Calls Tryz.prog 221 #[.string f] w fun e w' => ∃ r : Bool, e = .returned (.bool r) ∧ (r = true ↔ RightP f) ∧ Below w.heap.size w w' := by
  go_enter Tryz.func221, Tryz.ntmps221
  go_wp2_with fail
  refine (read_any f _ hf).mono ?_
  rintro e w' ⟨n, ok, rfl, hb, hok, hn⟩
  have HOK := Lib.hid hok
  have HB := Lib.hid hb
  clear hok hb hn
  cases ok with
  | true =>
    go_wp2
    go_ret
    exact ⟨true, rfl, ⟨fun _ => .inr (.inr (HOK.out.1 (by simp))), fun _ => rfl⟩, HB.out⟩
  | false =>
    by_cases h0 : f.data.toList = []
    · have h1 := (emp_iff f).2 h0
      have H0 := Lib.hid h0
      clear h0
      go_wp2
      go_ret
      exact ⟨true, rfl, ⟨fun _ => .inl H0.out, fun _ => rfl⟩, HB.out⟩
    · have h1 : f.toList.isEmpty = false := by
        cases hh : f.toList.isEmpty with
        | false => rfl
        | true => exact absurd ((emp_iff f).1 hh) h0
      have H0 := Lib.hid h0
      clear h0
      go_wp2
      go_ret
      refine ⟨_, rfl, ?_, HB.out⟩
      rw [toList_data, beq_iff_eq]
      constructor
      · exact fun h => .inr (.inl h)
      · rintro (h | h | h)
        · exact absurd h H0.out
        · exact h
        · exact absurd (HOK.out.2 h) (by simp)
end Go.Proofs.Pw.Mx
/- A user's name, places; may a user be? -/
namespace Go.Proofs.Pw
open Go.RowKit

def alnset : Bytes := [97, 98, 99, 100, 101, 102, 103, 104, 105, 106, 107, 108, 109, 110, 111, 112, 113, 114, 115, 116, 117, 118, 119, 120, 121, 122, 48, 49, 50, 51, 52, 53, 54, 55, 56, 57]
theorem alnset0 : ∀ j : Fin 256, alnset.contains (UInt8.ofNat j.val) = isAln (UInt8.ofNat j.val) := by decide +kernel
theorem alnset_is (c : UInt8) : alnset.contains c = isAln c := by
  have := alnset0 ⟨c.toNat, c.toNat_lt⟩
  simpa using this
theorem trim_nil (l : Bytes) : Lib.trimS l alnset = [] ↔ l.all isAln = true := by
  unfold Lib.trimS Lib.trimLeftS Lib.trimRightS
  have hp : (fun x => alnset.contains x) = isAln := funext alnset_is
  show List.dropWhile (fun x => alnset.contains x) (List.dropWhile (fun x => alnset.contains x) l.reverse).reverse = [] ↔ _
  rw [hp, Mx.dw_nil, List.all_eq_true]
  constructor
  · intro h x hx
    have h2 : ∀ x ∈ l.reverse.dropWhile isAln, isAln x = true := fun x hx => h x (List.mem_reverse.2 hx)
    exact Mx.drop_all h2 x (List.mem_reverse.2 hx)
  · intro h x hx
    exact h x (List.mem_reverse.1 ((List.dropWhile_sublist isAln).subset (List.mem_reverse.1 hx)))
theorem trim_any (s : ByteArray) (w : World) (hs : s.size ≤ 1000000000000000000) :
    Calls Tryz.prog 180 #[.string s, .string ⟨#[97, 98, 99, 100, 101, 102, 103, 104, 105, 106, 107, 108, 109, 110, 111, 112, 113, 114, 115, 116, 117, 118, 119, 120, 121, 122, 48, 49, 50, 51, 52, 53, 54, 55, 56, 57]⟩] w fun e w' => ∃ t : ByteArray, e = .returned (.string t) ∧ t.toList.isEmpty = s.data.toList.all isAln ∧ Below w.heap.size w w' := by
  refine (Any.strings_Trim_laid Tryz.lays160 (by kernel_rfl) s ⟨#[97, 98, 99, 100, 101, 102, 103, 104, 105, 106, 107, 108, 109, 110, 111, 112, 113, 114, 115, 116, 117, 118, 119, 120, 121, 122, 48, 49, 50, 51, 52, 53, 54, 55, 56, 57]⟩ w (by omega) (by decide) (ascii_of_all (by decide))).mono ?_
  rintro e w' ⟨rfl, hb⟩
  refine ⟨_, rfl, ?_, hb⟩
  rw [toList_data]
  show (Lib.trimS s.data.toList alnset).isEmpty = _
  rw [Bool.eq_iff_iff, List.isEmpty_iff, trim_nil]
theorem head_data {s : ByteArray} (h : 0 < s.size) : headLow s.data.toList = isLow s[0] := by
  cases hd : s.data.toList with
  | nil => have := sz s; rw [hd] at this; simp at this; omega
  | cons c l =>
    have e : s[0] = c := by
      have h1 : s.data.toList[0]? = some s[0] := by
        rw [List.getElem?_eq_getElem (by rw [sz]; exact h)]; rfl
      rw [hd] at h1
      simpa using h1.symm
    rw [e]; rfl
theorem emp_of {s : ByteArray} (h : 0 < s.size) : s.toList.isEmpty = false := by
  rw [toList_data]
  cases hh : s.data.toList with
  | nil => have := sz s; rw [hh] at this; simp at this; omega
  | cons => rfl
theorem nameB_nil : nameB [] = false := rfl
set_option maxHeartbeats 1000000 in
theorem name_any (s : ByteArray) (w : World) (hs : s.size ≤ 140737488351232) :
    Calls Tryz.prog 220 #[.string s] w fun e w' => e = .returned (.bool (nameB s.data.toList)) ∧ Below w.heap.size w w' := by
  by_cases h0 : s.size = 0
  · have h1 : s.data.toList = [] := by have := sz s; rw [h0] at this; exact List.length_eq_zero_iff.1 this
    have h2 : s.toList = [] := by rw [toList_data]; exact h1
    have H1 : Hid (nameB s.data.toList = false) := Lib.hid (by rw [h1]; rfl)
    clear h1 h0
    go_enter Tryz.func220, Tryz.ntmps220
    go_wp2
    go_ret
    exact ⟨by rw [H1.out]; rfl, Below.refl _ _⟩
  · have hpos : 0 < s.size := by omega
    have h2 := emp_of hpos
    have HH := Lib.hid (head_data hpos)
    have hp1 : (0 : Int) < s.size := by omega
    by_cases h8 : s.size ≤ 8
    · have h81 : (s.size : Int) ≤ 8 := by omega
      have HL : Hid (s.data.toList.length ≤ 8) := Lib.hid (by rw [sz]; exact h8)
      by_cases ha : (97 : Int) ≤ s[0].toNat
      · by_cases hb : (s[0].toNat : Int) ≤ 122
        · have HLOW : Hid (headLow s.data.toList = true) := Lib.hid (by rw [HH.out]; unfold isLow; simp; omega)
          have HT := Lib.hid (fun W => trim_any s W (by omega))
          clear hs
          go_enter Tryz.func220, Tryz.ntmps220
          go_wp2_with fail
          refine (HT.out _).mono ?_
          rintro e w' ⟨t, rfl, ht, hbb⟩
          have HB := Lib.hid hbb
          have HN : Hid (nameB s.data.toList = t.toList.isEmpty) := Lib.hid (by rw [ht]; unfold nameB; rw [HLOW.out, decide_eq_true HL.out]; simp)
          clear hbb ht
          cases hq : t.toList.isEmpty with
          | true =>
            have HQ := Lib.hid hq
            go_wp2
            go_ret
            exact ⟨by rw [HN.out, HQ.out]; rfl, HB.out⟩
          | false =>
            have HQ := Lib.hid hq
            go_wp2
            go_ret
            exact ⟨by rw [HN.out, HQ.out]; rfl, HB.out⟩
        · have HN : Hid (nameB s.data.toList = false) := Lib.hid (by unfold nameB; rw [HH.out]; have : isLow s[0] = false := by unfold isLow; simp; omega
                                                                     rw [this]; simp)
          go_enter Tryz.func220, Tryz.ntmps220
          go_wp2
          go_ret
          exact ⟨by rw [HN.out]; rfl, Below.refl _ _⟩
      · have HN : Hid (nameB s.data.toList = false) := Lib.hid (by unfold nameB; rw [HH.out]; have : isLow s[0] = false := by unfold isLow; simp; omega
                                                                   rw [this]; simp)
        go_enter Tryz.func220, Tryz.ntmps220
        go_wp2
        go_ret
        exact ⟨by rw [HN.out]; rfl, Below.refl _ _⟩
    · have h81 : ¬ (s.size : Int) ≤ 8 := by omega
      have HN : Hid (nameB s.data.toList = false) := Lib.hid (by unfold nameB; rw [decide_eq_false (by rw [sz]; exact h8)]; simp)
      clear h8
      go_enter Tryz.func220, Tryz.ntmps220
      go_wp2
      go_ret
      exact ⟨by rw [HN.out]; rfl, Below.refl _ _⟩
theorem contains_idx (l : Bytes) (c : UInt8) : l.contains c = decide (0 ≤ Lib.indexByte l c) := by
  rcases idx_cases l c with h | ⟨i, h⟩
  · rw [h]
    have := no_d h
    simpa using this
  · rw [h]
    obtain ⟨_, _, h3⟩ := at_d h
    have : c ∈ l := by rw [h3]; simp
    have h1 : l.contains c = true := List.contains_iff_mem.2 this
    rw [h1]
    simp
theorem own_form {w : World} {base n : Nat} {v : Value} {xs : List Value} (h : w.ownsRow base 9 1 v n xs) : ∃ a m c, v = .slice a m c := by
  obtain ⟨_, ⟨rfl, _⟩ | ⟨g, cap, cur, rfl, _⟩⟩ := h
  · exact ⟨_, _, _, rfl⟩
  · exact ⟨_, _, _, rfl⟩
set_option maxHeartbeats 1000000 in
theorem place_any (s : ByteArray) (w : World) (hs : s.size ≤ 140737488351232) :
    Calls Tryz.prog 222 #[.string s] w fun e w' => e = .returned (.bool (placeB s.data.toList)) ∧ Below w.heap.size w w' := by
  go_enter Tryz.func222, Tryz.ntmps222
  go_wp2_with fail
  refine (Pp.split_any s _ hs).mono ?_
  rintro e w1 ⟨abs, dir, v, l, err, rfl, hown, hb, hsp⟩
  obtain ⟨sa, sn, sc, rfl⟩ := own_form hown
  have HB := Lib.hid hb
  have HSP : Hid (placeB s.data.toList = (decide (err = 0) && abs && !s.data.toList.contains 58)) := Lib.hid (by unfold placeB; rw [hsp])
  clear hown hb hsp
  by_cases he : err = 0
  · subst he
    cases abs with
    | true =>
      cases hc : decide (0 ≤ Lib.indexByte s.data.toList 58) with
      | true =>
        have HC : Hid (placeB s.data.toList = false) := Lib.hid (by rw [HSP.out, contains_idx, hc]; rfl)
        go_wp2_with fail
        refine (Tryz.strings_Contains_one s 58 _).mono ?_
        rw [hc]
        rintro e w2 ⟨rfl, rfl⟩
        go_wp2
        go_ret
        exact ⟨by rw [HC.out]; rfl, HB.out.alloc HB.out.size _⟩
      | false =>
        have HC : Hid (placeB s.data.toList = true) := Lib.hid (by rw [HSP.out, contains_idx, hc]; rfl)
        go_wp2_with fail
        refine (Tryz.strings_Contains_one s 58 _).mono ?_
        rw [hc]
        rintro e w2 ⟨rfl, rfl⟩
        go_wp2
        go_ret
        exact ⟨by rw [HC.out]; rfl, HB.out.alloc HB.out.size _⟩
    | false =>
      have HC : Hid (placeB s.data.toList = false) := Lib.hid (by rw [HSP.out]; simp)
      go_wp2
      go_ret
      exact ⟨by rw [HC.out]; rfl, HB.out.alloc HB.out.size _⟩
  · have he1 : (err == 0) = false := by simpa using he
    have HC : Hid (placeB s.data.toList = false) := Lib.hid (by rw [HSP.out, decide_eq_false he]; simp)
    clear he
    go_wp2
    go_ret
    exact ⟨by rw [HC.out]; rfl, HB.out.alloc HB.out.size _⟩
theorem box_six {w w1 : World} {f : UserS} {u : TypeId} (hb : Below (w.alloc (.cells (userC f) u)).heap.size (w.alloc (.cells (userC f) u)) w1) : UC w1 w.heap.size 0 f := by
  have h : ∀ (i : Nat) (v : Value), (userC f)[i]? = some v → w1.cell? ⟨w.heap.size, i, none⟩ = some v := fun i v hv => by
    rw [hb.cell (p := ⟨w.heap.size, i, none⟩) (by simp), heap_cell (at_new w _) i]
    exact hv
  exact ⟨h 0 _ rfl, h 1 _ rfl, h 2 _ rfl, h 3 _ rfl, h 4 _ rfl, h 5 _ rfl⟩
theorem passB_of (f : ByteArray) : passB f.data.toList = true ↔ Mx.RightP f := by
  unfold passB Mx.RightP
  simp only [Bool.or_eq_true, decide_eq_true_eq, fieldB_iff, or_assoc]
theorem pass_any (f : ByteArray) (w : World) (hf : f.size ≤ 140737488351232) :
    Calls Tryz.prog 221 #[.string f] w fun e w' => e = .returned (.bool (passB f.data.toList)) ∧ Below w.heap.size w w' := by
  refine (Mx.right_any f w hf).mono ?_
  rintro e w' ⟨r, rfl, hr, hb⟩
  refine ⟨?_, hb⟩
  have : r = passB f.data.toList := by rw [Bool.eq_iff_iff, hr, passB_of]
  rw [this]
/-- A user's texts are within the form's reach. -/
structure SzU (u : UserS) : Prop where
  name : u.name.size ≤ 140737488351232
  pass : u.pass.size ≤ 140737488351232
  home : u.home.size ≤ 140737488351232
  shell : u.shell.size ≤ 140737488351232
theorem UC.below {w w' : World} {b o : Nat} {f : UserS} (h : UC w b o f) (hb : Below w.heap.size w w') : UC w' b o f := by
  have k : ∀ i v, w.cell? ⟨b, i, none⟩ = some v → w'.cell? ⟨b, i, none⟩ = some v := fun i v hv => by
    rw [hb.cell (p := ⟨b, i, none⟩) (World.block_lt_of_cell? w _ hv)]; exact hv
  exact ⟨k _ _ h.g0, k _ _ h.g1, k _ _ h.g2, k _ _ h.g3, k _ _ h.g4, k _ _ h.g5⟩
/-- A box's cells, as a walk reads them. -/
theorem UC.at0 {w : World} {b : Nat} {f : UserS} (h : UC w b 0 f) : w.cell? ⟨b, 0, none⟩ = some (.string f.name) ∧ w.cell? ⟨b, 1, none⟩ = some (.string f.pass) ∧ w.cell? ⟨b, 2, none⟩ = some (.int .i64 f.id) ∧ w.cell? ⟨b, 3, none⟩ = some (.int .i64 f.group) ∧ w.cell? ⟨b, 4, none⟩ = some (.string f.home) ∧ w.cell? ⟨b, 5, none⟩ = some (.string f.shell) :=
  ⟨h.g0, h.g1, h.g2, h.g3, h.g4, h.g5⟩
set_option maxHeartbeats 4000000 in
set_option maxRecDepth 100000 in
theorem may_any (u : UserS) (w : World) (hu : SzU u) :
    Calls Tryz.prog 194 #[.agg (userC u)] w fun e w' => e = .returned (.bool (mayB u)) ∧ Below w.heap.size w w' := by
  have HU := Lib.hid hu
  clear hu
  have HM : Hid (mayB u = (nameB u.name.data.toList && passB u.pass.data.toList && (decide (0 ≤ u.id) && decide (u.id ≤ 65535)) && (decide (0 ≤ u.group) && decide (u.group ≤ 65535)) && placeB u.home.data.toList && placeB u.shell.data.toList)) := Lib.hid rfl
  unfold userC
  go_enter Tryz.func194, Tryz.ntmps194
  go_wp2_with fail
  refine (name_any u.name _ HU.out.name).mono ?_
  rintro e w1 ⟨rfl, hb⟩
  have hc : UC w1 w.heap.size 0 u := box_six (u := 47) hb
  have HB1 := Lib.hid (((Below.refl w.heap.size w).alloc (Nat.le_refl _) (.cells (userC u) 47)).trans (hb.mono (by simp)))
  clear hb
  cases hn : nameB u.name.data.toList with
  | false =>
    rw [hn] at HM
    clear hc
    go_wp2
    go_ret
    exact ⟨by rw [HM.out]; simp, HB1.out⟩
  | true =>
    rw [hn] at HM
    have HC1 := Lib.hid hc
    obtain ⟨c0, c1, c2, c3, c4, c5⟩ := hc.at0
    clear hc hn
    go_wp2_with fail
    refine (pass_any u.pass _ HU.out.pass).mono ?_
    rintro e w2 ⟨rfl, hb⟩
    have hc := HC1.out.below hb
    have HB2 := Lib.hid (HB1.out.trans (hb.mono HB1.out.size))
    clear hb c0 c1 c2 c3 c4 c5 HC1 HB1
    cases hn : passB u.pass.data.toList with
    | false =>
      rw [hn] at HM
      clear hc
      go_wp2
      go_ret
      exact ⟨by rw [HM.out]; simp, HB2.out⟩
    | true =>
      rw [hn] at HM
      have HC2 := Lib.hid hc
      obtain ⟨c0, c1, c2, c3, c4, c5⟩ := hc.at0
      clear hc hn
      by_cases h1 : (0 : Int) ≤ u.id
      · by_cases h2 : u.id ≤ 65535
        · by_cases h3 : (0 : Int) ≤ u.group
          · by_cases h4 : u.group ≤ 65535
            · rw [decide_eq_true h1, decide_eq_true h2, decide_eq_true h3, decide_eq_true h4] at HM
              go_wp2_with fail
              refine (place_any u.home _ HU.out.home).mono ?_
              rintro e w3 ⟨rfl, hb⟩
              have hc := HC2.out.below hb
              have HB3 := Lib.hid (HB2.out.trans (hb.mono HB2.out.size))
              clear hb c0 c1 c2 c3 c4 c5 HC2 HB2
              cases hn : placeB u.home.data.toList with
              | false =>
                rw [hn] at HM
                clear hc
                go_wp2
                go_ret
                exact ⟨by rw [HM.out]; simp, HB3.out⟩
              | true =>
                rw [hn] at HM
                obtain ⟨c0, c1, c2, c3, c4, c5⟩ := hc.at0
                clear hc hn
                go_wp2_with fail
                refine (place_any u.shell _ HU.out.shell).mono ?_
                rintro e w4 ⟨rfl, hb⟩
                have HB4 := Lib.hid (HB3.out.trans (hb.mono HB3.out.size))
                clear hb c0 c1 c2 c3 c4 c5 HB3
                cases hn : placeB u.shell.data.toList with
                | false =>
                  rw [hn] at HM
                  clear hn
                  go_wp2
                  go_ret
                  exact ⟨by rw [HM.out]; simp, HB4.out⟩
                | true =>
                  rw [hn] at HM
                  clear hn
                  go_wp2
                  go_ret
                  exact ⟨by rw [HM.out]; simp, HB4.out⟩
            · rw [decide_eq_false h4] at HM
              go_wp2
              go_ret
              exact ⟨by rw [HM.out]; simp, HB2.out⟩
          · rw [decide_eq_false h3] at HM
            go_wp2
            go_ret
            exact ⟨by rw [HM.out]; simp, HB2.out⟩
        · rw [decide_eq_false h2] at HM
          go_wp2
          go_ret
          exact ⟨by rw [HM.out]; simp, HB2.out⟩
      · rw [decide_eq_false h1] at HM
        go_wp2
        go_ret
        exact ⟨by rw [HM.out]; simp, HB2.out⟩
end Go.Proofs.Pw
/- Plain laws of lists of users: printed, parsed. -/
namespace Go.Proofs.Pw

def namesU (L : List UserS) : List ByteArray := L.map (·.name)
def rightB (L : List UserS) : Bool := decide (L.length ≤ 8) && L.all mayB && decide ((namesU L).Nodup)
structure RightU (L : List UserS) : Prop where
  len : L.length ≤ 8
  may : ∀ u ∈ L, mayB u = true
  nodup : (namesU L).Nodup
theorem rightB_iff (L : List UserS) : rightB L = true ↔ RightU L := by
  unfold rightB
  simp only [Bool.and_eq_true, decide_eq_true_eq, List.all_eq_true]
  exact ⟨fun ⟨⟨h1, h2⟩, h3⟩ => ⟨h1, h2, h3⟩, fun h => ⟨⟨h.len, h.may⟩, h.nodup⟩⟩
def printB (L : List UserS) : Bytes := L.flatMap (fun u => lineB u ++ [10])
theorem printB_nil : printB [] = [] := rfl
theorem printB_cons (u : UserS) (L : List UserS) : printB (u :: L) = lineB u ++ 10 :: printB L := by simp [printB]
theorem printB_app (L M : List UserS) : printB (L ++ M) = printB L ++ printB M := by simp [printB]
theorem printB_snoc (L : List UserS) (u : UserS) : printB (L ++ [u]) = printB L ++ lineB u ++ [10] := by simp [printB]
def IsLine (s : Bytes) (u : UserS) : Prop := mayB u = true ∧ lineB u = s
open Classical in
noncomputable def readO (s : Bytes) : Option UserS := if h : ∃ u, IsLine s u then some (Classical.choose h) else none
theorem readO_of {s : Bytes} {u : UserS} (h : IsLine s u) : readO s = some u := by
  have hx : ∃ u, IsLine s u := ⟨u, h⟩
  unfold readO
  rw [dif_pos hx]
  have hc := Classical.choose_spec hx
  rw [line_inj hc.1 h.1 (hc.2.trans h.2.symm)]
theorem readO_some {s : Bytes} {u : UserS} (h : readO s = some u) : IsLine s u := by
  unfold readO at h
  split at h
  · rename_i hx
    rw [← Option.some.inj h]
    exact Classical.choose_spec hx
  · cases h
theorem readO_none {s : Bytes} (h : ∀ u, ¬ IsLine s u) : readO s = none := by
  unfold readO
  rw [dif_neg]
  rintro ⟨u, hu⟩
  exact h u hu
/-- The first line of bytes, and what is behind it. -/
def lineOf (t : Bytes) : Bytes := t.takeWhile (fun c => decide (c ≠ 10))
def restOf (t : Bytes) : Bytes := t.drop ((lineOf t).length + 1)
theorem restOf_lt {t : Bytes} (h : t ≠ []) : (restOf t).length < t.length := by
  unfold restOf
  rw [List.length_drop]
  have := List.length_pos_iff.2 h
  omega
theorem lineOf_app {s : Bytes} (h : 10 ∉ s) (r : Bytes) : lineOf (s ++ 10 :: r) = s := by
  unfold lineOf
  rw [List.takeWhile_append_of_pos (fun c hc => by
    have : c ≠ 10 := fun e => h (e ▸ hc)
    simpa using this)]
  simp
theorem lineOf_end {s : Bytes} (h : 10 ∉ s) : lineOf s = s := by
  unfold lineOf
  have := List.takeWhile_append_of_pos (p := fun c : UInt8 => decide (c ≠ 10)) (l₁ := s) (l₂ := []) (fun c hc => by
    have : c ≠ 10 := fun e => h (e ▸ hc)
    simpa using this)
  simpa using this
theorem restOf_app {s : Bytes} (h : 10 ∉ s) (r : Bytes) : restOf (s ++ 10 :: r) = r := by
  unfold restOf
  rw [lineOf_app h]
  simp [List.drop_append]
theorem mem_cut : ∀ {t : Bytes}, 10 ∈ t → ∃ s r, t = s ++ 10 :: r ∧ 10 ∉ s
  | [], h => by cases h
  | c :: l, h => by
    by_cases hc : c = 10
    · exact ⟨[], l, by simp [hc], by simp⟩
    · rcases List.mem_cons.1 h with e | hm
      · exact absurd e.symm hc
      · obtain ⟨s, r, e, hs⟩ := mem_cut hm
        refine ⟨c :: s, r, by simp [e], ?_⟩
        simp only [List.mem_cons, not_or]
        exact ⟨fun e => hc e.symm, hs⟩
theorem line_cut {t : Bytes} (h : 10 ∈ t) : t = lineOf t ++ 10 :: restOf t ∧ 10 ∉ lineOf t := by
  obtain ⟨s, r, rfl, hs⟩ := mem_cut h
  rw [lineOf_app hs, restOf_app hs]
  exact ⟨rfl, hs⟩
theorem line_last {t : Bytes} (h : 10 ∉ t) : lineOf t = t := lineOf_end h
open Classical in
/-- What Parse tells of bytes, behind the users that were read: users, or a line's number and an error. -/
noncomputable def parseL (L : List UserS) (n : Nat) (t : Bytes) : Except (Nat × Int) (List UserS) :=
  if ht : t = [] then .ok L
  else match readO (lineOf t) with
    | none => .error (n, 17)
    | some u => if 10 ∉ t then .error (n, 17) else if u.name ∈ namesU L then .error (n, 5) else if L.length = 8 then .error (n, 12)
      else parseL (L ++ [u]) (n + 1) (restOf t)
termination_by t.length
decreasing_by exact restOf_lt ht
theorem parseL_nil (L : List UserS) (n : Nat) : parseL L n [] = .ok L := by rw [parseL]; simp
open Classical in
theorem parseL_step {L : List UserS} {n : Nat} {u : UserS} (hu : mayB u = true) (r : Bytes) :
    parseL L n (lineB u ++ 10 :: r) = if u.name ∈ namesU L then .error (n, 5) else if L.length = 8 then .error (n, 12) else parseL (L ++ [u]) (n + 1) r := by
  have h10 := line_no10 hu
  rw [parseL, dif_neg (by simp), lineOf_app h10, readO_of ⟨hu, rfl⟩, restOf_app h10]
  simp
theorem parseL_last {L : List UserS} {n : Nat} {t : Bytes} (h0 : t ≠ []) (h : 10 ∉ t) : parseL L n t = .error (n, 17) := by
  rw [parseL, dif_neg h0]
  split
  · rfl
  · rw [if_pos h]
theorem parseL_bad {L : List UserS} {n : Nat} {t : Bytes} (h0 : t ≠ []) (h : ∀ u, ¬ IsLine (lineOf t) u) : parseL L n t = .error (n, 17) := by
  rw [parseL, dif_neg h0, readO_none h]
theorem parse_print : ∀ (M L : List UserS) (n : Nat) (r : Bytes), RightU (L ++ M) → parseL L n (printB M ++ r) = parseL (L ++ M) (n + M.length) r
  | [], L, n, r, _ => by simp [printB]
  | u :: M, L, n, r, h => by
    have hu := h.may u (by simp)
    have hl := h.len
    have hn : u.name ∉ namesU L := by
      have := h.nodup
      unfold namesU at this ⊢
      rw [List.map_append, List.nodup_append] at this
      intro hm
      exact this.2.2 _ hm _ (by simp) rfl
    simp only [List.length_append, List.length_cons] at hl
    rw [printB_cons, List.append_assoc, List.cons_append, parseL_step hu, if_neg hn, if_neg (by omega), parse_print M (L ++ [u]) (n + 1) r (by simpa using h)]
    simp only [List.append_assoc, List.cons_append, List.nil_append, List.length_cons]
    rw [show n + 1 + M.length = n + (M.length + 1) by omega]
theorem parse_whole : ∀ (k : Nat) (t : Bytes) (L M : List UserS) (n : Nat), t.length ≤ k → RightU L → parseL L n t = .ok M → RightU M ∧ printB M = printB L ++ t
  | k, t, L, M, n, hk, hL, h => by
    by_cases ht : t = []
    · subst ht
      rw [parseL_nil] at h
      cases h
      exact ⟨hL, by simp⟩
    · rw [parseL, dif_neg ht] at h
      cases hr : readO (lineOf t) with
      | none => rw [hr] at h; cases h
      | some u =>
        rw [hr] at h
        simp only at h
        split at h
        · cases h
        · rename_i h10
          split at h
          · cases h
          · rename_i hn
            split at h
            · cases h
            · rename_i h8
              obtain ⟨hu, hul⟩ := readO_some hr
              have hlt := restOf_lt ht
              match k, hk with
              | 0, hk => exact absurd (List.length_eq_zero_iff.1 (by omega)) ht
              | k + 1, hk =>
                have hL2 : RightU (L ++ [u]) := ⟨by have := hL.len; simp; omega, fun v hv => by
                  rcases List.mem_append.1 hv with hv | hv
                  · exact hL.may v hv
                  · simp at hv; rw [hv]; exact hu, by
                  unfold namesU at hn ⊢
                  rw [List.map_append, List.nodup_append]
                  refine ⟨hL.nodup, by simp, ?_⟩
                  rintro a ha b hb rfl
                  simp at hb
                  rw [hb] at ha
                  exact hn ha⟩
                obtain ⟨h1, h2⟩ := parse_whole k (restOf t) (L ++ [u]) M (n + 1) (by omega) hL2 h
                refine ⟨h1, ?_⟩
                have h10' : 10 ∈ t := by
                  apply Classical.byContradiction
                  exact fun hh => h10 hh
                obtain ⟨hc, _⟩ := line_cut h10'
                rw [h2, printB_snoc, hul]
                conv => rhs; rw [hc]
                simp
theorem rightU_nil : RightU [] := ⟨by simp, (fun u h => by cases h), by simp [namesU]⟩
/-- A text of users, one that is right, read. -/
theorem parse_of {L : List UserS} (h : RightU L) (n : Nat) : parseL [] n (printB L) = .ok L := by
  have := parse_print L [] n [] (by simpa using h)
  simpa [parseL_nil] using this
theorem parse_is {t : Bytes} {L : List UserS} (n : Nat) (h : parseL [] n t = .ok L) : RightU L ∧ printB L = t := by
  have := parse_whole t.length t [] L n (Nat.le_refl _) rightU_nil h
  simpa [printB_nil] using this
/-- All but the last byte. -/
theorem parse_short {L : List UserS} (h : RightU L) (h0 : L ≠ []) : parseL [] 1 ((printB L).take ((printB L).length - 1)) = .error (L.length, 17) := by
  obtain ⟨M, u, rfl⟩ : ∃ M u, L = M ++ [u] := ⟨L.dropLast, L.getLast h0, (List.dropLast_concat_getLast h0).symm⟩
  have hu := h.may u (by simp)
  have e : (printB (M ++ [u])).take ((printB (M ++ [u])).length - 1) = printB M ++ lineB u := by
    rw [printB_snoc, List.length_append, List.length_singleton, Nat.add_sub_cancel]
    exact List.take_left
  have hM : RightU ([] ++ M) := ⟨by have := h.len; simp at this ⊢; omega, fun v hv => h.may v (by simp at hv ⊢; exact .inl hv), by
    have := h.nodup
    unfold namesU at this ⊢
    rw [List.map_append, List.nodup_append] at this
    exact this.1⟩
  rw [e, parse_print M [] 1 (lineB u) hM, parseL_last _ (line_no10 hu)]
  · simp; omega
  · unfold lineB; simp
/-- A text twice. -/
theorem parse_twice {t : Bytes} {L : List UserS} (h : parseL [] 1 t = .ok L) (h0 : t ≠ []) : parseL [] 1 (t ++ t) = .error (L.length + 1, 5) := by
  obtain ⟨hR, rfl⟩ := parse_is 1 h
  cases L with
  | nil => exact absurd rfl h0
  | cons u M =>
    rw [parse_print (u :: M) [] 1 (printB (u :: M)) (by simpa using hR), printB_cons, parseL_step (hR.may u (by simp)), List.nil_append, if_pos (by simp [namesU])]
    simp; omega
end Go.Proofs.Pw
/- at, Find, Of, Right. -/
namespace Go.Proofs.Pw
open Go.RowKit

def isName (x : ByteArray) (f : UserS) : Bool := decide (f.name = x)
def isId (x : Int) (f : UserS) : Bool := decide (f.id = x)
set_option maxHeartbeats 1000000 in
theorem at_any (v : Value) (fs : List UserS) (x : ByteArray) (w : World) (hF : InU w v fs) (hn : fs.length ≤ 140737488355328) :
    Calls Tryz.prog 130 #[v, .string x] w fun e w' => e = .returned (.int .i64 (findU (isName x) fs 0)) ∧ Below w.heap.size w w' := by
  have hmf : ∀ (fn : Fn) (first cap : Array Value) (w : World), (Instr.makeFunc fn first cap).run Tryz.prog w = .ok (.func fn first cap) w := fun _ _ _ _ => rfl
  have hb0 : Below w.heap.size w (w.alloc (.cells #[.string x] 9)) := (Below.refl _ _).alloc (Nat.le_refl _) _
  have HI := Lib.hid (indexat_any v fs w.heap.size x (w.alloc (.cells #[.string x] 9)) (hF.below hb0) hn (by rw [heap_cell (at_new w _) 0]; rfl))
  have HB0 := Lib.hid hb0
  clear hF hn hb0
  go_enter Tryz.func130, Tryz.ntmps130
  go_wp2_with fail
  refine HI.out.mono ?_
  rintro e w1 ⟨rfl, hb⟩
  have HB := Lib.hid (HB0.out.trans (hb.mono HB0.out.size))
  clear hb
  go_wp2
  go_ret
  exact ⟨rfl, HB.out⟩
/-- Nobody. -/
def zeroU : UserS := ⟨⟨#[]⟩, ⟨#[]⟩, 0, 0, ⟨#[]⟩, ⟨#[]⟩⟩
/-- What is found: a user, or none. -/
def FoundP (p : UserS → Bool) (fs : List UserS) (w : World) (e : Ending) (w' : World) : Prop :=
  Below w.heap.size w w' ∧ ((∃ k : Nat, ∃ h : k < fs.length, p fs[k] = true ∧ (∀ j (hj : j < k), p (fs[j]'(by omega)) = false) ∧ e = .returned (.tuple #[.agg (userC fs[k]), .bool true])) ∨
    ((∀ f ∈ fs, p f = false) ∧ e = .returned (.tuple #[.agg (userC zeroU), .bool false])))
theorem leave11 {T : Array Value} {W : World} (n0 : Nat) {f : UserS} {b : Bool} (hT4 : T[4]? = some (.pointer (some ⟨n0, 0, none⟩))) (hT5 : T[5]? = some (.bool b))
    (hres : W.heap[n0]? = some (.cells (userC f) 47 (0, 0))) {R : Ending → World → Prop} (hR : R (.returned (.tuple #[.agg (userC f), .bool b])) W) :
    bodyPost Tryz.prog Tryz.f78 R Exit.ret { tmps := T, defers := [] } W := by
  have c0 : W.cell? ⟨n0, 0, none⟩ = some (.string f.name) := heap_cell hres 0
  have c1 : W.cell? ⟨n0, 1, none⟩ = some (.string f.pass) := heap_cell hres 1
  have c2 : W.cell? ⟨n0, 2, none⟩ = some (.int .i64 f.id) := heap_cell hres 2
  have c3 : W.cell? ⟨n0, 3, none⟩ = some (.int .i64 f.group) := heap_cell hres 3
  have c4 : W.cell? ⟨n0, 4, none⟩ = some (.string f.home) := heap_cell hres 4
  have c5 : W.cell? ⟨n0, 5, none⟩ = some (.string f.shell) := heap_cell hres 5
  exact bodyPost_ret (v := .tuple #[.agg (userC f), .bool b]) (by simp [results, Tryz.results36, go_sem, hT4, hT5, c0, c1, c2, c3, c4, c5, userC]) rfl hR
theorem leave12 {T : Array Value} {W : World} (n0 : Nat) {f : UserS} {b : Bool} (hT4 : T[4]? = some (.pointer (some ⟨n0, 0, none⟩))) (hT5 : T[5]? = some (.bool b))
    (hres : W.heap[n0]? = some (.cells (userC f) 47 (0, 0))) {R : Ending → World → Prop} (hR : R (.returned (.tuple #[.agg (userC f), .bool b])) W) :
    bodyPost Tryz.prog Tryz.f94 R Exit.ret { tmps := T, defers := [] } W := by
  have c0 : W.cell? ⟨n0, 0, none⟩ = some (.string f.name) := heap_cell hres 0
  have c1 : W.cell? ⟨n0, 1, none⟩ = some (.string f.pass) := heap_cell hres 1
  have c2 : W.cell? ⟨n0, 2, none⟩ = some (.int .i64 f.id) := heap_cell hres 2
  have c3 : W.cell? ⟨n0, 3, none⟩ = some (.int .i64 f.group) := heap_cell hres 3
  have c4 : W.cell? ⟨n0, 4, none⟩ = some (.string f.home) := heap_cell hres 4
  have c5 : W.cell? ⟨n0, 5, none⟩ = some (.string f.shell) := heap_cell hres 5
  exact bodyPost_ret (v := .tuple #[.agg (userC f), .bool b]) (by simp [results, Tryz.results176, go_sem, hT4, hT5, c0, c1, c2, c3, c4, c5, userC]) rfl hR
/-- A block that stood stands. -/
theorem below_heap {w W : World} (h : Below w.heap.size w W) {g : Nat} {o : Obj} (hg : w.heap[g]? = some o) : W.heap[g]? = some o := by
  have hlt : g < w.heap.size := (Array.getElem?_eq_some_iff.1 hg).1
  rw [h.block _ hlt]; exact hg
/-- Six stores, one behind the other. -/
def sixW (W : World) (n : Nat) (a b c d e f : Value) : World := (((((W.setCell ⟨n, 0, none⟩ a).setCell ⟨n, 1, none⟩ b).setCell ⟨n, 2, none⟩ c).setCell ⟨n, 3, none⟩ d).setCell ⟨n, 4, none⟩ e).setCell ⟨n, 5, none⟩ f
theorem sixW_at {W : World} {n : Nat} {g : UserS} (h : W.heap[n]? = some (.cells (userC g) 47 (0, 0))) (f : UserS) :
    (sixW W n (.string f.name) (.string f.pass) (.int .i64 f.id) (.int .i64 f.group) (.string f.home) (.string f.shell)).heap[n]? = some (.cells (userC f) 47 (0, 0)) := by
  unfold sixW
  rw [heap_setCell_same _ _ _ _ _ _ (heap_setCell_same _ _ _ _ _ _ (heap_setCell_same _ _ _ _ _ _ (heap_setCell_same _ _ _ _ _ _ (heap_setCell_same _ _ _ _ _ _ (heap_setCell_same _ _ _ _ _ _ h)))))]
  rfl
theorem sixW_below {B : Nat} {w W : World} (h : Below B w W) {n : Nat} (hn : B ≤ n) (a b c d e f : Value) : Below B w (sixW W n a b c d e f) := by
  unfold sixW
  exact (((((h.setCell hn _).setCell hn _).setCell hn _).setCell hn _).setCell hn _).setCell hn _
/-- A block's cells and that none is shared, as a store asks for them. -/
theorem six_facts {W : World} {n : Nat} {g : UserS} (h : W.heap[n]? = some (.cells (userC g) 47 (0, 0))) :
    (W.cell? ⟨n, 0, none⟩ = some (.string g.name) ∧ W.cell? ⟨n, 1, none⟩ = some (.string g.pass) ∧ W.cell? ⟨n, 2, none⟩ = some (.int .i64 g.id) ∧ W.cell? ⟨n, 3, none⟩ = some (.int .i64 g.group) ∧ W.cell? ⟨n, 4, none⟩ = some (.string g.home) ∧ W.cell? ⟨n, 5, none⟩ = some (.string g.shell)) ∧
    (W.frozen? ⟨n, 0, none⟩ = false ∧ W.frozen? ⟨n, 1, none⟩ = false ∧ W.frozen? ⟨n, 2, none⟩ = false ∧ W.frozen? ⟨n, 3, none⟩ = false ∧ W.frozen? ⟨n, 4, none⟩ = false ∧ W.frozen? ⟨n, 5, none⟩ = false) :=
  ⟨⟨heap_cell h 0, heap_cell h 1, heap_cell h 2, heap_cell h 3, heap_cell h 4, heap_cell h 5⟩, ⟨frozen_of_row _ _ _ _ _ h, frozen_of_row _ _ _ _ _ h, frozen_of_row _ _ _ _ _ h, frozen_of_row _ _ _ _ _ h, frozen_of_row _ _ _ _ _ h, frozen_of_row _ _ _ _ _ h⟩⟩
set_option maxHeartbeats 2000000 in
set_option maxRecDepth 100000 in
theorem find_any (v : Value) (fs : List UserS) (x : ByteArray) (w : World) (hF : InU w v fs) (hn : fs.length ≤ 140737488355328) :
    Calls Tryz.prog 78 #[v, .string x] w (FoundP (isName x) fs w) := by
  obtain ⟨a, cap, rfl, hc⟩ := hF
  have HF : Hid (InU w (.slice a fs.length cap) fs) := Lib.hid ⟨a, cap, rfl, hc⟩
  clear hc
  have HA := Lib.hid (fun (W : World) (h : Below w.heap.size w W) => at_any _ fs x W (HF.out.below h) hn)
  have hn1 : (fs.length : Int) ≤ 140737488355328 := by omega
  have HN := Lib.hid hn
  clear hn
  go_enter Tryz.func78, Tryz.ntmps78
  go_wp2_with fail
  refine (HA.out _ ((Below.refl _ _).alloc (Nat.le_refl _) _)).mono ?_
  rintro e w1 ⟨rfl, hb⟩
  have hcell := below_heap hb (at_new w (.cells (userC zeroU) 47))
  have HH := Lib.hid hcell
  have HB := Lib.hid (((Below.refl w.heap.size w).alloc (Nat.le_refl _) (.cells (userC zeroU) 47)).trans (hb.mono (by simp)))
  clear hb hcell
  rcases findU_cases (isName x) fs with ⟨h1, h2⟩ | ⟨k, hk, h1, h2, h3⟩
  · rw [h1]
    have H2 := Lib.hid h2
    clear h1 h2
    obtain ⟨⟨e0, e1, e2, e3, e4, e5⟩, ⟨z0, z1, z2, z3, z4, z5⟩⟩ := six_facts HH.out
    go_wp2
    exact leave11 w.heap.size rfl rfl (sixW_at HH.out zeroU) ⟨sixW_below HB.out (Nat.le_refl _) _ _ _ _ _ _, .inr ⟨H2.out, rfl⟩⟩
  · rw [h3]
    clear h3
    have hk1 : (k : Int) < fs.length := by omega
    have hk0 : (0 : Int) ≤ k := by omega
    obtain ⟨b, off, rfl, hu⟩ := HF.out.uc HB.out hk
    have HKK := Lib.hid (show ∃ h : k < fs.length, isName x fs[k] = true ∧ ∀ j (hj : j < k), isName x (fs[j]'(by omega)) = false from ⟨hk, h1, h2⟩)
    obtain ⟨f, hf⟩ : ∃ f, fs[k] = f := ⟨_, rfl⟩
    have HFK := Lib.hid hf
    rw [hf] at hu
    obtain ⟨g0, g1, g2, g3, g4, g5⟩ := hu
    clear h1 h2 hf
    obtain ⟨⟨e0, e1, e2, e3, e4, e5⟩, ⟨z0, z1, z2, z3, z4, z5⟩⟩ := six_facts HH.out
    go_wp2
    refine leave11 w.heap.size rfl rfl (sixW_at HH.out f) ⟨sixW_below HB.out (Nat.le_refl _) _ _ _ _ _ _, .inl ?_⟩
    obtain ⟨h, h1, h2⟩ := HKK.out
    exact ⟨k, h, h1, h2, by rw [HFK.out]⟩
set_option maxHeartbeats 2000000 in
set_option maxRecDepth 100000 in
theorem of_any (v : Value) (fs : List UserS) (x : Int) (w : World) (hF : InU w v fs) (hn : fs.length ≤ 140737488355328) :
    Calls Tryz.prog 94 #[v, .int .i64 x] w (FoundP (isId x) fs w) := by
  obtain ⟨a, cap, rfl, hc⟩ := hF
  have HF : Hid (InU w (.slice a fs.length cap) fs) := Lib.hid ⟨a, cap, rfl, hc⟩
  clear hc
  have hmf : ∀ (fn : Fn) (first cap : Array Value) (w : World), (Instr.makeFunc fn first cap).run Tryz.prog w = .ok (.func fn first cap) w := fun _ _ _ _ => rfl
  have hb0 : Below w.heap.size w ((w.alloc (.cells #[.int .i64 x] 3)).alloc (.cells (userC zeroU) 47)) := ((Below.refl _ _).alloc (Nat.le_refl _) _).alloc (by simp) _
  have hcx : ((w.alloc (.cells #[.int .i64 x] 3)).alloc (.cells (userC zeroU) 47)).cell? ⟨w.heap.size, 0, none⟩ = some (.int .i64 x) := heap_cell (heap_alloc2_old w (.cells #[.int .i64 x] 3) (.cells (userC zeroU) 47)) 0
  have HI := Lib.hid (indexof_any _ fs w.heap.size x _ (HF.out.below hb0) hn hcx)
  have HB0 := Lib.hid hb0
  have HA0 := Lib.hid (heap_alloc2_new w (.cells #[.int .i64 x] 3) (.cells (userC zeroU) 47))
  clear hb0 hcx
  have hn1 : (fs.length : Int) ≤ 140737488355328 := by omega
  have HN := Lib.hid hn
  clear hn
  go_enter Tryz.func94, Tryz.ntmps94
  go_wp2_with fail
  refine HI.out.mono ?_
  rintro e w1 ⟨rfl, hb⟩
  have hcell := below_heap hb HA0.out
  have HH := Lib.hid hcell
  have HB := Lib.hid (HB0.out.trans (hb.mono HB0.out.size))
  clear hb hcell HI HA0 hmf
  rw [show findU (fun f => decide (f.id = x)) fs 0 = findU (isId x) fs 0 from rfl]
  rcases findU_cases (isId x) fs with ⟨h1, h2⟩ | ⟨k, hk, h1, h2, h3⟩
  · rw [h1]
    have H2 := Lib.hid h2
    clear h1 h2
    obtain ⟨⟨e0, e1, e2, e3, e4, e5⟩, ⟨z0, z1, z2, z3, z4, z5⟩⟩ := six_facts HH.out
    go_wp2
    exact leave12 (w.heap.size + 1) rfl rfl (sixW_at HH.out zeroU) ⟨sixW_below HB.out (Nat.le_succ _) _ _ _ _ _ _, .inr ⟨H2.out, rfl⟩⟩
  · rw [h3]
    clear h3
    have hk1 : (k : Int) < fs.length := by omega
    have hk0 : (0 : Int) ≤ k := by omega
    obtain ⟨b, off, rfl, hu⟩ := HF.out.uc HB.out hk
    have HKK := Lib.hid (show ∃ h : k < fs.length, isId x fs[k] = true ∧ ∀ j (hj : j < k), isId x (fs[j]'(by omega)) = false from ⟨hk, h1, h2⟩)
    obtain ⟨f, hf⟩ : ∃ f, fs[k] = f := ⟨_, rfl⟩
    have HFK := Lib.hid hf
    rw [hf] at hu
    obtain ⟨g0, g1, g2, g3, g4, g5⟩ := hu
    clear h1 h2 hf
    obtain ⟨⟨e0, e1, e2, e3, e4, e5⟩, ⟨z0, z1, z2, z3, z4, z5⟩⟩ := six_facts HH.out
    go_wp2
    refine leave12 (w.heap.size + 1) rfl rfl (sixW_at HH.out f) ⟨sixW_below HB.out (Nat.le_succ _) _ _ _ _ _ _, .inl ?_⟩
    obtain ⟨h, h1, h2⟩ := HKK.out
    exact ⟨k, h, h1, h2, by rw [HFK.out]⟩
end Go.Proofs.Pw
/- notes, becomes. -/
namespace Go.Proofs.YtlhlehdajkoogaaGreatDoor
open Go.RowKit

/-- A machine that notes whether somebody was right. -/
def NoteS (name : ByteArray) (right : Bool) (f : Value) (m : Ma) (w : World) : Prop := m.over = false ∧ m.c = { op := 26, text := name, n := if right then 1 else 0 } ∧ ∃ b br bt, m.th = .func (.func 157) #[] #[.pointer (some ⟨b, 0, none⟩)] ∧ w.heap[b]? = some (.cells #[.func (.func 149) #[] #[.pointer (some ⟨br, 0, none⟩), .pointer (some ⟨bt, 0, none⟩)]] KT (0, 0)) ∧ w.heap[br]? = some (.cells #[.bool right] 4 (0, 0)) ∧ w.heap[bt]? = some (.cells #[f] KT (0, 0))
theorem NoteS.kr {q : Nat} {name : ByteArray} {right : Bool} {f : Value} {m : Ma} {w w' : World} (h : NoteS name right f m w) (k : Kr q w w') : NoteS name right f m w' := by
  obtain ⟨h0, h1, b, br, bt, h2, h3, h4, h5⟩ := h
  exact ⟨h0, h1, b, br, bt, h2, k.get h3, k.get h4, k.get h5⟩
set_option maxRecDepth 100000 in
set_option maxHeartbeats 4000000 in
theorem notes_any {w : World} {p : Nat} {m : Ma} (h : M w p m) (ho : m.over = false) (name : ByteArray) (right : Bool) (fn : Fn) (fi ca : Array Value) :
    Calls Tryz.prog 99 #[.pointer (some ⟨p, 0, none⟩), .string name, .bool right, .func fn fi ca] w (ThP p w (Kst m (NoteS name right (.func fn fi ca)))) := by
  have hmf : ∀ (fn : Fn) (first cap : Array Value) (w : World), (Instr.makeFunc fn first cap).run Tryz.prog w = .ok (.func fn first cap) w := fun _ _ _ _ => rfl
  obtain ⟨W, hW, h1, h2, hb, hsz⟩ := boxes2 w #[.bool right] #[.func fn fi ca] 4 KT
  have x0 : W.cell? ⟨w.heap.size, 0, none⟩ = some (.bool right) := cell_of h1 0
  have HM := Lib.hid (h.below hb)
  have HO := Lib.hid ho
  have HB := Lib.hid h1
  have HT := Lib.hid h2
  have HMO := Lib.hid (Mo.of (b := p) hb)
  unfold KT at hW
  clear h ho h1 h2 hb hsz
  cases right with
  | false =>
    go_enter Tryz.func99, Tryz.ntmps99
    go_wp2_with fail
    refine (ignores_any _ _ _).mono ?_
    rintro e w3 ⟨rfl, rfl⟩
    obtain ⟨W3, hW3, hx3, hb3, _⟩ := boxes1 W #[.func (.func 149) #[] #[.pointer (some ⟨w.heap.size, 0, none⟩), .pointer (some ⟨w.heap.size + 1, 0, none⟩)]] KT
    rw [hW3]
    have k3 := Kb.below hb3
    have HM3 := Lib.hid (HM.out.below hb3)
    have HX3 := Lib.hid hx3
    have HB3 := Lib.hid (k3.get HB.out)
    have HT3 := Lib.hid (k3.get HT.out)
    have HMO3 := Lib.hid (HMO.out.below hb3)
    clear hx3 hb3 k3 HM HB HT HMO hW3 hW x0
    go_wp2_with fail
    refine (sys_any HM3.out { op := 26, text := name, n := 0 } _ _ _ rfl rfl).mono ?_
    rintro e w4 ⟨rfl, h1, h2⟩
    have hk := Kb.mo HM3.out h2
    have H := Lib.hid (ThP.sys h1 HO.out rfl rfl (HMO3.out.trans h2) (R := Kst m (NoteS name false (.func fn fi ca))) ⟨rfl, HO.out, rfl, _, _, _, rfl, hk.get HX3.out, hk.get HB3.out, hk.get HT3.out⟩)
    clear h1 h2 hk
    go_wp2
    exact bodyPost_end (results_none rfl _ _ _) rfl H.out
  | true =>
    go_enter Tryz.func99, Tryz.ntmps99
    go_wp2_with fail
    refine (ignores_any _ _ _).mono ?_
    rintro e w3 ⟨rfl, rfl⟩
    obtain ⟨W3, hW3, hx3, hb3, _⟩ := boxes1 W #[.func (.func 149) #[] #[.pointer (some ⟨w.heap.size, 0, none⟩), .pointer (some ⟨w.heap.size + 1, 0, none⟩)]] KT
    rw [hW3]
    have k3 := Kb.below hb3
    have HM3 := Lib.hid (HM.out.below hb3)
    have HX3 := Lib.hid hx3
    have HB3 := Lib.hid (k3.get HB.out)
    have HT3 := Lib.hid (k3.get HT.out)
    have HMO3 := Lib.hid (HMO.out.below hb3)
    clear hx3 hb3 k3 HM HB HT HMO hW3 hW x0
    go_wp2_with fail
    refine (sys_any HM3.out { op := 26, text := name, n := 1 } _ _ _ rfl rfl).mono ?_
    rintro e w4 ⟨rfl, h1, h2⟩
    have hk := Kb.mo HM3.out h2
    have H := Lib.hid (ThP.sys h1 HO.out rfl rfl (HMO3.out.trans h2) (R := Kst m (NoteS name true (.func fn fi ca))) ⟨rfl, HO.out, rfl, _, _, _, rfl, hk.get HX3.out, hk.get HB3.out, hk.get HT3.out⟩)
    clear h1 h2 hk
    go_wp2
    exact bodyPost_end (results_none rfl _ _ _) rfl H.out
set_option maxRecDepth 100000 in
set_option maxHeartbeats 4000000 in
theorem noted_yes {w : World} {p br bt : Nat} {k : FuncId} {ca : Array Value} (h1 : w.heap[br]? = some (.cells #[.bool true] 4 (0, 0))) (h2 : w.heap[bt]? = some (.cells #[.func (.func k) #[] ca] KT (0, 0))) (hen : Enters k) {R : Ma → World → Prop} (hk : Calls Tryz.prog k (#[.pointer (some ⟨p, 0, none⟩)] ++ ca) w (ThP p w R)) :
    Calls Tryz.prog 149 #[.pointer (some ⟨p, 0, none⟩), .pointer (some ⟨br, 0, none⟩), .pointer (some ⟨bt, 0, none⟩)] w (ThP p w R) := by
  have x0 : w.cell? ⟨br, 0, none⟩ = some (.bool true) := cell_of h1 0
  have x1 : w.cell? ⟨bt, 0, none⟩ = some (.func (.func k) #[] ca) := cell_of h2 0
  have HK := Lib.hid hk
  clear h1 h2 hk
  go_enter Tryz.func149, Tryz.ntmps149
  go_wp2_with fail
  refine HK.out.mono ?_
  intro e w1 h
  obtain rfl := h.end
  have H := Lib.hid h
  clear h
  go_wp2
  exact bodyPost_end (results_none rfl _ _ _) rfl H.out
def sWrong : ByteArray := ⟨#[119, 114, 111, 110, 103]⟩
/-- A machine that says why it ends. -/
def FailS (why : ByteArray) (m : Ma) (w : World) : Prop := SayS 2 (m.prog ++ sColon ++ why ++ sLf) (.func (.func 137) #[] #[]) m w
theorem FailS.kr {q : Nat} {why : ByteArray} {m : Ma} {w w' : World} (h : FailS why m w) (k : Kr q w w') : FailS why m w' := SayS.kr h k
theorem failed_st {w : World} {p : Nat} {m : Ma} (h : M w p m) (ho : m.over = false) (hw : m.writes = false) (why : ByteArray) (h1 : m.prog.size ≤ 1000000) (h2 : why.size ≤ 1000000) :
    Calls Tryz.prog 89 #[.pointer (some ⟨p, 0, none⟩), .string why] w (ThP p w (Kst m (FailS why))) :=
  (fails_any h ho hw why h1 h2).mono fun _ _ h => h.mono fun m' w' k => ⟨k.1, by unfold FailS; rw [show m'.prog = m.prog from congrArg (·.1) k.1]; exact k.2⟩
set_option maxRecDepth 100000 in
set_option maxHeartbeats 4000000 in
theorem noted_no {w : World} {p br bt : Nat} {m : Ma} (h : M w p m) (ho : m.over = false) (hw : m.writes = false) (hz : m.prog.size ≤ 1000000) (h1 : w.heap[br]? = some (.cells #[.bool false] 4 (0, 0))) :
    Calls Tryz.prog 149 #[.pointer (some ⟨p, 0, none⟩), .pointer (some ⟨br, 0, none⟩), .pointer (some ⟨bt, 0, none⟩)] w (ThP p w (Kst m (FailS sWrong))) := by
  have x0 : w.cell? ⟨br, 0, none⟩ = some (.bool false) := cell_of h1 0
  have HF := Lib.hid (failed_st h ho hw sWrong hz (show 5 ≤ 1000000 by omega))
  clear h ho hw hz h1
  go_enter Tryz.func149, Tryz.ntmps149
  go_wp2_with fail
  refine HF.out.mono ?_
  intro e w1 h
  obtain rfl := h.end
  have H := Lib.hid h
  clear h
  go_wp2
  exact bodyPost_end (results_none rfl _ _ _) rfl H.out
/-- A machine that becomes a user. -/
def BecS (u : Pw.UserS) (f : Value) (m : Ma) (w : World) : Prop := ∃ bt, MustS { op := 23, owner := u.id, group := u.group } (.func (.func 60) #[] #[]) (.func (.func 132) #[] #[.pointer (some ⟨bt, 0, none⟩)]) m w ∧ w.heap[bt]? = some (.cells #[f] KT (0, 0))
theorem BecS.kr {q : Nat} {u : Pw.UserS} {f : Value} {m : Ma} {w w' : World} (h : BecS u f m w) (k : Kr q w w') : BecS u f m w' := by
  obtain ⟨bt, h1, h2⟩ := h
  exact ⟨bt, h1.kr k, k.get h2⟩
set_option maxRecDepth 100000 in
set_option maxHeartbeats 4000000 in
theorem becomes_any {w : World} {p : Nat} {m : Ma} (h : M w p m) (ho : m.over = false) (u : Pw.UserS) (fn : Fn) (fi ca : Array Value) :
    Calls Tryz.prog 81 #[.pointer (some ⟨p, 0, none⟩), .agg (Pw.userC u), .func fn fi ca] w (ThP p w (Kst m (BecS u (.func fn fi ca)))) := by
  have hmf : ∀ (fn : Fn) (first cap : Array Value) (w : World), (Instr.makeFunc fn first cap).run Tryz.prog w = .ok (.func fn first cap) w := fun _ _ _ _ => rfl
  obtain ⟨W, hW, h1, h2, hb, hsz⟩ := boxes2 w (Pw.userC u) #[.func fn fi ca] 47 KT
  have x2 : W.cell? ⟨w.heap.size, 2, none⟩ = some (.int .i64 u.id) := cell_of h1 2
  have x3 : W.cell? ⟨w.heap.size, 3, none⟩ = some (.int .i64 u.group) := cell_of h1 3
  have HM := Lib.hid (h.below hb)
  have HO := Lib.hid ho
  have HT := Lib.hid h2
  have HMO := Lib.hid (Mo.of (b := p) hb)
  unfold KT at hW
  clear h ho h1 h2 hb hsz
  generalize Pw.userC u = C at *
  go_enter Tryz.func81, Tryz.ntmps81
  go_wp2_with fail
  refine (must_any HM.out HO.out { op := 23, owner := u.id, group := u.group } rfl rfl _ _ _ _ _ _).mono ?_
  intro e w2 h
  obtain rfl := h.end
  have H := Lib.hid ((h.more HM.out (R1 := Kst m (BecS u (.func fn fi ca))) fun m' w' k hh => ⟨hh.1, _, hh.2, k.get HT.out⟩).pre HMO.out)
  clear h
  go_wp2
  exact bodyPost_end (results_none rfl _ _ _) rfl H.out
/-- notes, by what it leads to. -/
def NoteQ (c : Cx) (name : ByteArray) (right : Bool) (R : Ma → World → Prop) (m : Ma) (w : World) : Prop := ∃ f, NoteS name right f m w ∧ (right = true → Kt c R f w)
theorem NoteQ.kr {c : Cx} {name : ByteArray} {right : Bool} {R : Ma → World → Prop} {m : Ma} {w w' : World} (h : NoteQ c name right R m w) (k : Kr c.q w w') : NoteQ c name right R m w' := by
  obtain ⟨f, h1, h2⟩ := h
  exact ⟨f, h1.kr k, fun h => (h2 h).kr k⟩
theorem en_notes1 : Enters 149 := enter_of Tryz.func149 (by kernel_rfl) rfl
theorem note_yes {c : Cx} {w : World} {l : Nat} {m : Ma} {name : ByteArray} {R : Ma → World → Prop} (hr : Run c l w m) (hs : NoteQ c name true R m w) (hR : ∀ m' w1 w2, Kb w1 w2 → R m' w1 → R m' w2) (r : An) :
    Calls Tryz.prog 14 #[.pointer (some ⟨l, 0, none⟩), .agg r.cells] w (NextP c.p w (Kst m R)) := by
  obtain ⟨f, ⟨ho, _, b, br, bt, h1, h2, h3, h4⟩, hf⟩ := hs
  obtain ⟨k, ca, rfl, he1, hk⟩ := hf rfl
  refine go_next hr ho h1 r hR en_ignores1 fun w1 k1 g => ?_
  refine ignored_any (k1.get h2) r en_notes1 fun w2 hb => ?_
  have k2 := k1.trans (Kb.below hb)
  exact noted_yes (k2.get h3) (k2.get h4) he1 (hk w2 _ (k2.kr _) (g.below hb))
theorem note_no {c : Cx} {w : World} {l : Nat} {m : Ma} {name : ByteArray} {R : Ma → World → Prop} (hr : Run c l w m) (hs : NoteQ c name false R m w) (hw : m.writes = false) (hz : m.prog.size ≤ 1000000) (r : An) :
    Calls Tryz.prog 14 #[.pointer (some ⟨l, 0, none⟩), .agg r.cells] w (NextP c.p w (Kst m (FailS sWrong))) := by
  obtain ⟨f, ⟨ho, _, b, br, bt, h1, h2, h3, h4⟩, _⟩ := hs
  refine go_next hr ho h1 r (fun m' w1 w2 k hh => hh.kr (k.kr 0)) en_ignores1 fun w1 k1 g => ?_
  refine ignored_any (k1.get h2) r en_notes1 fun w2 hb => ?_
  have k2 := k1.trans (Kb.below hb)
  exact noted_no (g.mach.below hb) ho hw hz (k2.get h3)
theorem fail_n {c : Cx} {w : World} {l : Nat} {m : Ma} {why : ByteArray} (hr : Run c l w m) (hs : FailS why m w) (r : An) (he : r.err = 0) (hn : 1 ≤ r.n) (ht : ((m.prog ++ sColon ++ why ++ sLf).size : Int) ≤ r.n) :
    Calls Tryz.prog 14 #[.pointer (some ⟨l, 0, none⟩), .agg r.cells] w (NextP c.p w (Kst m (EndS 1))) :=
  say_n hr hs (fun _ _ _ _ h => h.kb) (kt_end c w) r he hn ht
end Go.Proofs.YtlhlehdajkoogaaGreatDoor
/- proves. -/
namespace Go.Proofs.YtlhlehdajkoogaaGreatDoor
open Go.RowKit

def sPw : ByteArray := ⟨#[80, 97, 115, 115, 119, 111, 114, 100, 58, 32]⟩
set_option maxRecDepth 100000 in
set_option maxHeartbeats 4000000 in
/-- A user without a password need not prove anything. -/
theorem proves_free {w : World} {p : Nat} {m : Ma} (h : M w p m) (ho : m.over = false) (name : ByteArray) (u : Pw.UserS) (hu : u.pass.toList.isEmpty = true) (fn : Fn) (fi ca : Array Value) :
    Calls Tryz.prog 79 #[.pointer (some ⟨p, 0, none⟩), .string name, .agg (Pw.userC u), .bool true, .func fn fi ca] w (ThP p w (Kst m (NoteS name true (.func fn fi ca)))) := by
  have hmf : ∀ (fn : Fn) (first cap : Array Value) (w : World), (Instr.makeFunc fn first cap).run Tryz.prog w = .ok (.func fn first cap) w := fun _ _ _ _ => rfl
  obtain ⟨W, hW, h1, h2, h3, h4, hb, hsz⟩ := boxes4 w #[.string name] (Pw.userC u) #[.bool true] #[.func fn fi ca] 9 47 4 KT
  have x0 : W.cell? ⟨w.heap.size, 0, none⟩ = some (.string name) := cell_of h1 0
  have x1 : W.cell? ⟨w.heap.size + 1, 1, none⟩ = some (.string u.pass) := cell_of h2 1
  have x2 : W.cell? ⟨w.heap.size + 1 + 1, 0, none⟩ = some (.bool true) := cell_of h3 0
  have x3 : W.cell? ⟨w.heap.size + 1 + 1 + 1, 0, none⟩ = some (.func fn fi ca) := cell_of h4 0
  have HM := Lib.hid (h.below hb)
  have HO := Lib.hid ho
  have HMO := Lib.hid (Mo.of (b := p) hb)
  unfold KT at hW
  clear h ho h1 h2 h3 h4 hb hsz
  generalize Pw.userC u = C at *
  go_enter Tryz.func79, Tryz.ntmps79
  go_wp2_with fail
  refine (notes_any HM.out HO.out name true fn fi ca).mono ?_
  intro e w2 h
  obtain rfl := h.end
  have H := Lib.hid (h.pre HMO.out)
  clear h
  go_wp2
  exact bodyPost_end (results_none rfl _ _ _) rfl H.out
/-- What proves' closure holds. -/
def PrvB (name : ByteArray) (u : Pw.UserS) (is : Bool) (f g : Value) (w : World) : Prop := ∃ bn bi bu bt, g = .func (.func 131) #[] #[.pointer (some ⟨bn, 0, none⟩), .pointer (some ⟨bi, 0, none⟩), .pointer (some ⟨bu, 0, none⟩), .pointer (some ⟨bt, 0, none⟩)] ∧ w.heap[bn]? = some (.cells #[.string name] 9 (0, 0)) ∧ w.heap[bi]? = some (.cells #[.bool is] 4 (0, 0)) ∧ w.heap[bu]? = some (.cells (Pw.userC u) 47 (0, 0)) ∧ w.heap[bt]? = some (.cells #[f] KT (0, 0))
theorem PrvB.kr {q : Nat} {name : ByteArray} {u : Pw.UserS} {is : Bool} {f g : Value} {w w' : World} (h : PrvB name u is f g w) (k : Kr q w w') : PrvB name u is f g w' := by
  obtain ⟨bn, bi, bu, bt, h0, h1, h2, h3, h4⟩ := h
  exact ⟨bn, bi, bu, bt, h0, k.get h1, k.get h2, k.get h3, k.get h4⟩
set_option maxRecDepth 100000 in
set_option maxHeartbeats 4000000 in
theorem proves_ask {w : World} {p : Nat} {m : Ma} (h : M w p m) (ho : m.over = false) (name : ByteArray) (u : Pw.UserS) (is : Bool) (hu : is = true → u.pass.toList.isEmpty = false) (fn : Fn) (fi ca : Array Value) :
    Calls Tryz.prog 79 #[.pointer (some ⟨p, 0, none⟩), .string name, .agg (Pw.userC u), .bool is, .func fn fi ca] w (ThP p w (Kst m fun m' w' => ∃ g, AskS sPw g m' w' ∧ PrvB name u is (.func fn fi ca) g w')) := by
  have hmf : ∀ (fn : Fn) (first cap : Array Value) (w : World), (Instr.makeFunc fn first cap).run Tryz.prog w = .ok (.func fn first cap) w := fun _ _ _ _ => rfl
  obtain ⟨W, hW, h1, h2, h3, h4, hb, hsz⟩ := boxes4 w #[.string name] (Pw.userC u) #[.bool is] #[.func fn fi ca] 9 47 4 KT
  have x0 : W.cell? ⟨w.heap.size, 0, none⟩ = some (.string name) := cell_of h1 0
  have x1 : W.cell? ⟨w.heap.size + 1, 1, none⟩ = some (.string u.pass) := cell_of h2 1
  have x2 : W.cell? ⟨w.heap.size + 1 + 1, 0, none⟩ = some (.bool is) := cell_of h3 0
  have HM := Lib.hid (h.below hb)
  have HO := Lib.hid ho
  have HB : Hid (PrvB name u is (.func fn fi ca) (.func (.func 131) #[] #[.pointer (some ⟨w.heap.size, 0, none⟩), .pointer (some ⟨w.heap.size + 1 + 1, 0, none⟩), .pointer (some ⟨w.heap.size + 1, 0, none⟩), .pointer (some ⟨w.heap.size + 1 + 1 + 1, 0, none⟩)]) W) := Lib.hid ⟨_, _, _, _, rfl, h1, h3, h2, h4⟩
  have HMO := Lib.hid (Mo.of (b := p) hb)
  unfold KT at hW
  clear h ho h1 h2 h3 h4 hb hsz
  obtain ⟨C, hC⟩ : ∃ C, Pw.userC u = C := ⟨_, rfl⟩
  rw [hC] at hW ⊢
  clear hC
  cases is
  case' true => have hu1 := hu rfl
  all_goals
    clear hu
    go_enter Tryz.func79, Tryz.ntmps79
    go_wp2_with fail
    refine (asks_any HM.out HO.out sPw _ _ _).mono ?_
    intro e w2 h
    obtain rfl := h.end
    have H := Lib.hid ((h.more HM.out (R1 := Kst m fun m' w' => ∃ g, AskS sPw g m' w' ∧ PrvB name u _ (.func fn fi ca) g w') fun m' w' k hh => ⟨hh.1, _, hh.2, HB.out.kr (k.kr 0)⟩).pre HMO.out)
    clear h
    go_wp2
    exact bodyPost_end (results_none rfl _ _ _) rfl H.out
set_option maxRecDepth 100000 in
set_option maxHeartbeats 4000000 in
theorem proved_any {w : World} {p : Nat} {m : Ma} (h : M w p m) (ho : m.over = false) {name : ByteArray} {u : Pw.UserS} {is : Bool} {fn : Fn} {fi ca : Array Value} {bn bi bu bt : Nat} (h1 : w.heap[bn]? = some (.cells #[.string name] 9 (0, 0))) (h2 : w.heap[bi]? = some (.cells #[.bool is] 4 (0, 0))) (h3 : w.heap[bu]? = some (.cells (Pw.userC u) 47 (0, 0))) (h4 : w.heap[bt]? = some (.cells #[.func fn fi ca] KT (0, 0)))
    (ty : ByteArray) {mt : Bool} (hmt : ∀ W, Below w.heap.size w W → Calls Tryz.prog 100 #[.string u.pass, .string ty] W fun e w' => e = .returned (.bool mt) ∧ Below W.heap.size W w') :
    Calls Tryz.prog 131 #[.pointer (some ⟨p, 0, none⟩), .string ty, .pointer (some ⟨bn, 0, none⟩), .pointer (some ⟨bi, 0, none⟩), .pointer (some ⟨bu, 0, none⟩), .pointer (some ⟨bt, 0, none⟩)] w (ThP p w (Kst m (NoteS name (is && mt) (.func fn fi ca)))) := by
  have x0 : w.cell? ⟨bn, 0, none⟩ = some (.string name) := cell_of h1 0
  have x1 : w.cell? ⟨bi, 0, none⟩ = some (.bool is) := cell_of h2 0
  have x2 : w.cell? ⟨bu, 1, none⟩ = some (.string u.pass) := cell_of h3 1
  have x3 : w.cell? ⟨bt, 0, none⟩ = some (.func fn fi ca) := cell_of h4 0
  have HM := Lib.hid h
  have HO := Lib.hid ho
  have HN := Lib.hid h1
  have HI := Lib.hid h2
  have HU := Lib.hid h3
  have HT := Lib.hid h4
  have HX := Lib.hid hmt
  clear h ho h1 h2 h3 h4 hmt
  cases is with
  | false =>
    have HMD : Hid (M w.drew p m) := Lib.hid HM.out
    go_enter Tryz.func131, Tryz.ntmps131
    go_still_tail 10, (by kernel_rfl)
    go_wp2_with fail
    refine (notes_any HMD.out HO.out name false fn fi ca).mono ?_
    intro e w2 h
    obtain rfl := h.end
    have H := Lib.hid (h.pre (w0 := w) (Mo.refl p w).drew)
    clear h
    go_wp2
    exact bodyPost_end (results_none rfl _ _ _) rfl H.out
  | true =>
    have KP : ∀ W', Kb w W' → (W'.cell? ⟨bn, 0, none⟩ = some (.string name) ∧ W'.cell? ⟨bi, 0, none⟩ = some (.bool true) ∧ W'.cell? ⟨bu, 1, none⟩ = some (.string u.pass) ∧ W'.cell? ⟨bt, 0, none⟩ = some (.func fn fi ca)) := fun W' k => ⟨cell_of (k.get HN.out) 0, cell_of (k.get HI.out) 0, cell_of (k.get HU.out) 1, cell_of (k.get HT.out) 0⟩
    have hS0 := KP w (Kb.refl w)
    go_enter Tryz.func131, Tryz.ntmps131
    go_region_held3 (fun W' => W'.cell? ⟨bn, 0, none⟩ = some (.string name) ∧ W'.cell? ⟨bi, 0, none⟩ = some (.bool true) ∧ W'.cell? ⟨bu, 1, none⟩ = some (.string u.pass) ∧ W'.cell? ⟨bt, 0, none⟩ = some (.func fn fi ca))
      ((first | exact hS0 | exact hS1 | exact hS2))
      ((first
        | (go_at_call 100; refine (HX.out _ (by first | exact Below.refl _ _ | exact (Below.refl _ _).drew | exact belowDrewN (Below.refl _ _) _)).mono ?_; rintro e w1 ⟨rfl, hb1⟩; have hbw : Below w.heap.size w w1 := ⟨hb1.os, hb1.tape, hb1.output, hb1.size, hb1.block⟩; have hS1 := KP w1 (Kb.below hbw); have hM1 := HM.out.below hbw)
        | (go_at_call 99; refine (notes_any (p := p) (m := m) hM1 HO.out name mt fn fi ca).mono ?_; intro e w2 h; obtain rfl := h.end; have hTP : ThP p w1 (Kst m (NoteS name mt (.func fn fi ca))) _ w2 := ⟨h.1, h.2.elim fun m' hh => ⟨m', hh.1, hh.2.1, ⟨hh.2.2.1.os, hh.2.2.1.tape, hh.2.2.1.output, hh.2.2.1.size, hh.2.2.1.block⟩, hh.2.2.2⟩⟩; have hS2 := KP w2 (hTP.2.elim fun m' hh => (Kb.below hbw).trans (Kb.mo hM1 hh.2.2.1)))))
    have H := Lib.hid (hTP.pre (Mo.of (b := p) hbw))
    clear hTP h hS0 hS1 hS2 KP hM1 hbw hb1
    go_wp2
    exact bodyPost_end (results_none rfl _ _ _) rfl H.out
theorem en_proves1 : Enters 131 := enter_of Tryz.func131 (by kernel_rfl) rfl
/-- What proves' closure does. -/
theorem PrvB.tt {c : Cx} {name : ByteArray} {u : Pw.UserS} {is : Bool} {f g : Value} {w : World} (h : PrvB name u is f g w) {R : Ma → World → Prop} (hf : Kt c R f w) {mt : ByteArray → Bool} (hmt : ∀ ty w1, ty.size ≤ 2000 → Below c.w0.heap.size c.w0 w1 → Calls Tryz.prog 100 #[.string u.pass, .string ty] w1 fun e w' => e = .returned (.bool (mt ty)) ∧ Below w1.heap.size w1 w') :
    Tt c (fun ty => NoteQ c name (is && mt ty) R) g w := by
  obtain ⟨bn, bi, bu, bt, rfl, h1, h2, h3, h4⟩ := h
  refine ⟨_, _, rfl, en_proves1, fun w1 m ty hz k g => ?_⟩
  have hf1 := hf.kr k
  obtain ⟨k2, ca, rfl, he, hk⟩ := hf
  exact (proved_any g.mach g.over (k.get h1) (k.get h2) (k.get h3) (k.get h4) ty (fun W hb => hmt ty W hz (g.bel.trans (hb.mono g.bel.size)))).mono fun e w2 h => h.more g.mach fun m' w' k' hh => ⟨hh.1, _, hh.2, fun _ => hf1.kr (k'.kr _)⟩
end Go.Proofs.YtlhlehdajkoogaaGreatDoor
/- Right. -/
namespace Go.Proofs.Pw
open Go.RowKit

theorem first_nodup (L : List UserS) (h : ∀ j (hj : j < L.length), findU (isName L[j].name) L 0 = j) : (namesU L).Nodup := by
  unfold namesU
  rw [List.Nodup, List.pairwise_iff_getElem]
  intro i j hi hj hij e
  simp only [List.length_map] at hi hj
  simp only [List.getElem_map] at e
  have h1 := h j hj
  rcases findU_cases (isName L[j].name) L with ⟨h2, _⟩ | ⟨k, hk, h2, h3, h4⟩
  · rw [h1] at h2; omega
  · rw [h1] at h4
    have : k = j := by omega
    subst this
    have := h3 i hij
    unfold isName at this
    simp [e] at this
theorem nodup_first {L : List UserS} (h : (namesU L).Nodup) (j : Nat) (hj : j < L.length) : findU (isName L[j].name) L 0 = j := by
  rcases findU_cases (isName L[j].name) L with ⟨_, h2⟩ | ⟨k, hk, h2, h3, h4⟩
  · have := h2 L[j] (List.getElem_mem _)
    simp [isName] at this
  · rw [h4]
    unfold isName at h2
    have h2' : L[k].name = L[j].name := by simpa using h2
    have hkj : k = j := by
      unfold namesU at h
      rw [List.Nodup, List.pairwise_iff_getElem] at h
      rcases Nat.lt_trichotomy k j with hl | hl | hl
      · exact (h k j (by simpa using hk) (by simpa using hj) hl (by rw [List.getElem_map, List.getElem_map]; exact h2')).elim
      · exact hl
      · exact (h j k (by simpa using hj) (by simpa using hk) hl (by rw [List.getElem_map, List.getElem_map]; exact h2'.symm)).elim
    rw [hkj]
/-- What holds of the users that were looked at. -/
def SeenR (L : List UserS) (k : Nat) : Prop := ∀ j (hj : j < L.length), j < k → j < 8 ∧ mayB L[j] = true ∧ findU (isName L[j].name) L 0 = j
theorem seen_all {L : List UserS} (h : SeenR L L.length) : rightB L = true := by
  rw [rightB_iff]
  refine ⟨?_, fun u hu => ?_, first_nodup L (fun j hj => (h j hj hj).2.2)⟩
  · by_cases h8 : L.length ≤ 8
    · exact h8
    · have := (h 8 (by omega) (by omega)).1; omega
  · obtain ⟨j, hj, rfl⟩ := List.getElem_of_mem hu
    exact (h j hj hj).2.1
theorem not_right {L : List UserS} {k : Nat} (hk : k < L.length) (h : k = 8 ∨ mayB L[k] = false ∨ findU (isName L[k].name) L 0 ≠ k) : rightB L = false := by
  cases hr : rightB L with
  | false => rfl
  | true =>
    have hR := (rightB_iff L).1 hr
    rcases h with rfl | h | h
    · have := hR.len; omega
    · rw [hR.may _ (List.getElem_mem _)] at h; cases h
    · exact absurd (nodup_first hR.nodup k hk) h
theorem seen_next {L : List UserS} {k : Nat} (hk : k < L.length) (h : SeenR L k) (h8 : ¬ k = 8) (hm : mayB L[k] = true) (hf : findU (isName L[k].name) L 0 = k) : SeenR L (k + 1) := fun j hj hlt => by
  by_cases hjk : j < k
  · exact h j hj hjk
  · obtain rfl : j = k := by omega
    refine ⟨?_, hm, hf⟩
    by_cases h9 : j < 8
    · exact h9
    · have := (h 8 (by omega) (by omega)).1; omega
set_option maxHeartbeats 4000000 in
set_option maxRecDepth 100000 in
theorem right_any (v : Value) (L : List UserS) (w : World) (hF : InU w v L) (hn : L.length ≤ 140737488355328) (hS : ∀ u ∈ L, SzU u) :
    Calls Tryz.prog 202 #[v] w fun e w' => e = .returned (.bool (rightB L)) ∧ Below w.heap.size w w' := by
  obtain ⟨a, cap, rfl, hc⟩ := hF
  have HF : Hid (InU w (.slice a L.length cap) L) := Lib.hid ⟨a, cap, rfl, hc⟩
  clear hc
  have HA := Lib.hid (fun (x : ByteArray) (W : World) (h : Below w.heap.size w W) => at_any _ L x W (HF.out.below h) hn)
  have HS := Lib.hid hS
  have hn1 : (L.length : Int) ≤ 140737488355328 := by omega
  clear hn hS
  go_enter Tryz.func202, Tryz.ntmps202
  go_wp2
  go_loopw [3, 4, 7] (fun v3 v4 v7 wr => ∃ k : Nat, k ≤ L.length ∧ v7 = .int .i64 k ∧ Hid (Below w.heap.size w wr ∧ SeenR L k)) (fun v3 v4 v7 _ => L.length - (intOf v7).toNat)
  case atStart => exact ⟨0, Nat.zero_le _, rfl, Lib.hid ⟨Below.refl _ _, fun j hj h => absurd h (Nat.not_lt_zero j)⟩⟩
  case round =>
    obtain ⟨k, hk, rfl, HH⟩ := hrel
    by_cases hlt : k < L.length
    · have hlt1 : (k : Int) < L.length := by omega
      obtain ⟨b, off, rfl, hu⟩ := HF.out.uc HH.out.1 hlt
      have hsz := HS.out _ (List.getElem_mem hlt)
      have HN := Lib.hid (fun h => not_right hlt h)
      have HNX := Lib.hid (fun h8 hm hf => seen_next hlt HH.out.2 h8 hm hf)
      generalize L[k] = f at *
      obtain ⟨g0, g1, g2, g3, g4, g5⟩ := hu
      have HSZ := Lib.hid hsz
      clear hsz
      go_upto_region 4 with fail
      have hw4 : Below wr.heap.size wr (wr.alloc (.cells (userC f) 47)) := (Below.refl _ _).alloc (Nat.le_refl _) _
      have hu4 : UC (wr.alloc (.cells (userC f) 47)) wr.heap.size 0 f := box_six (u := 47) (Below.refl _ _)
      have HB4 := Lib.hid (HH.out.1.trans (hw4.mono HH.out.1.size))
      clear hw4
      have hW : ∃ W4, wr.alloc (.cells (userC f) 47) = W4 := ⟨_, rfl⟩
      obtain ⟨W4, hW4⟩ := hW
      rw [hW4] at hu4 HB4
      have hW4' : wr.alloc (.cells #[.string f.name, .string f.pass, .int .i64 f.id, .int .i64 f.group, .string f.home, .string f.shell] 47) = W4 := hW4
      rw [hW4']
      have HU4 := Lib.hid hu4
      obtain ⟨c0, c1, c2, c3, c4, c5⟩ := hu4.at0
      clear hu4 hW4 hW4' g0 g1 g2 g3 g4 g5
      by_cases h8 : k = 8
      · have HR : Hid (rightB L = false) := Lib.hid (HN.out (.inl h8))
        have h81 : ((k : Int) == 8) = true := by rw [h8]; rfl
        clear h8
        go_wp2
        go_ret
        exact ⟨by rw [HR.out]; rfl, HB4.out⟩
      · have h81 : ((k : Int) == 8) = false := by
          cases hh : ((k : Int) == 8) with
          | false => rfl
          | true => simp at hh; omega
        have H8 := Lib.hid h8
        clear h8
        go_wp2_with fail
        refine (may_any f _ HSZ.out).mono ?_
        rintro e w5 ⟨rfl, hb⟩
        have hu5 := HU4.out.below hb
        have HB5 := Lib.hid (HB4.out.trans (hb.mono HB4.out.size))
        clear hb c0 c1 c2 c3 c4 c5
        cases hm : mayB f with
        | false =>
          have HR : Hid (rightB L = false) := Lib.hid (HN.out (.inr (.inl hm)))
          clear hu5 hm
          go_wp2
          go_ret
          exact ⟨by rw [HR.out]; rfl, HB5.out⟩
        | true =>
          obtain ⟨c0, c1, c2, c3, c4, c5⟩ := hu5.at0
          have HM := Lib.hid hm
          clear hm hu5
          go_wp2_with fail
          refine (HA.out f.name _ HB5.out).mono ?_
          rintro e w6 ⟨rfl, hb⟩
          have HB6 := Lib.hid (HB5.out.trans (hb.mono HB5.out.size))
          clear hb c0 c1 c2 c3 c4 c5
          obtain ⟨q, hq⟩ : ∃ q, findU (isName f.name) L 0 = q := ⟨_, rfl⟩
          rw [hq]
          have HQ := Lib.hid hq
          clear hq
          by_cases hqk : q = k
          · have hne : (q != (k : Int)) = false := by rw [hqk]; simp
            have hne2 : (q == (k : Int)) = true := by rw [hqk]; simp
            have HNEXT := Lib.hid (HNX.out H8.out HM.out (by rw [HQ.out, hqk]))
            clear hqk
            go_wp2
            go_roundw
            case rel => exact ⟨k + 1, by omega, by go_num, Lib.hid ⟨HB6.out, HNEXT.out⟩⟩
            case measure => simp [intOf]; omega
          · have hne : (q != (k : Int)) = true := by simpa using hqk
            have hne2 : (q == (k : Int)) = false := by simpa using hqk
            have HR : Hid (rightB L = false) := Lib.hid (HN.out (.inr (.inr (by rw [HQ.out]; exact hqk))))
            clear hqk
            go_wp2
            go_ret
            exact ⟨by rw [HR.out]; rfl, HB6.out⟩
    · have hlt1 : ¬ (k : Int) < L.length := by omega
      have HR : Hid (rightB L = true) := Lib.hid (seen_all (by have := HH.out.2; rwa [show k = L.length by omega] at this))
      go_wp2
      go_ret
      exact ⟨by rw [HR.out]; rfl, HH.out.1⟩
end Go.Proofs.Pw
/- What the walks need of the world; Itoa; a user's line. -/
namespace Go.Proofs.Pw
open Go.RowKit

/-- What the library's variables hold. -/
structure HasW (W : World) : Prop where
  max : ∃ m, W.cell? ⟨2, 0, none⟩ = some (.int .i64 m)
  syn : ∃ u v, W.cell? ⟨0, 0, none⟩ = some (.iface u v)
  rng : ∃ u v, W.cell? ⟨1, 0, none⟩ = some (.iface u v)
  pow : Lib.TabIs Tryz.prog W "internal/strconv.uint64pow10" .u64 Lib.pow10Tab
theorem cell_below {w w' : World} {b i : Nat} {v : Value} (h : w.cell? ⟨b, i, none⟩ = some v) (hb : Below w.heap.size w w') : w'.cell? ⟨b, i, none⟩ = some v := by
  rw [hb.cell (p := ⟨b, i, none⟩) (World.block_lt_of_cell? w _ h)]; exact h
theorem HasW.below {w w' : World} (h : HasW w) (hb : Below w.heap.size w w') : HasW w' := by
  obtain ⟨m, hm⟩ := h.max
  obtain ⟨u, v, hs⟩ := h.syn
  obtain ⟨u', v', hr⟩ := h.rng
  exact ⟨⟨m, cell_below hm hb⟩, ⟨u, v, cell_below hs hb⟩, ⟨u', v', cell_below hr hb⟩, Lib.tabBelow_of_tabIs h.pow _ hb⟩
theorem below_grow (w : World) (k : Nat) (os : Array Obj) : Below w.heap.size w (Go.Sort.grow (w.drewN k) os) :=
  ⟨rfl, rfl, rfl, by rw [Go.Sort.size_grow]; exact Nat.le_add_right _ _, fun j hj => by
    show (w.heap ++ os)[j]? = w.heap[j]?
    rw [Array.getElem?_append_left hj]⟩
theorem dec_lib : ∀ (k u : Nat), u ≤ k → Lib.decDigits u = decD u
  | k, u, h => by
    by_cases h9 : u ≤ 9
    · rw [decD_le h9, Lib.decDigits_one (by omega)]; rfl
    · match k, h with
      | 0, h => omega
      | k + 1, h =>
        rw [decD_gt h9, Lib.decDigits, dif_neg (by omega), dec_lib k (u / 10) (by omega)]
        rfl
theorem itoa_any (n : Int) (h0 : 0 ≤ n) (h1 : n ≤ 65535) (w : World) (hW : HasW w) :
    Calls Tryz.prog 112 #[.int .i64 n] w fun e w' => e = .returned (.string ⟨(decD n.toNat).toArray⟩) ∧ Below w.heap.size w w' := by
  refine (Tryz.strconv_Itoa n (by omega) (by omega) w hW.pow).mono ?_
  rintro e w' ⟨rfl, k, os, rfl⟩
  refine ⟨?_, below_grow w k os⟩
  have : Lib.itoa n = decD n.toNat := by
    obtain ⟨m, rfl⟩ : ∃ m : Nat, n = m := ⟨n.toNat, by omega⟩
    rw [Lib.itoa_nonneg, dec_lib m m (Nat.le_refl _)]
    rfl
  rw [this]
def six (u : UserS) : List ByteArray := [u.name, u.pass, ⟨(decD u.id.toNat).toArray⟩, ⟨(decD u.group.toNat).toArray⟩, u.home, u.shell]
theorem join_six (u : UserS) : Lib.join ((six u).map (·.data.toList)) [58] = lineB u := by
  unfold six lineB
  simp only [List.map_cons, List.map_nil, Lib.join_cons, Lib.joinTail]
  simp
theorem drewN_below {B : Nat} {w W : World} (h : Below B w W) (k : Nat) : Below B w (W.drewN k) := h.trans ⟨rfl, rfl, rfl, Nat.le_refl _, fun _ _ => rfl⟩
/-- What a region holds of a world while it is walked. -/
def LineS (W0 : World) (n : Nat) (u : UserS) (W' : World) : Prop := Below W0.heap.size W0 W' ∧ W'.cell? ⟨n, 0, none⟩ = some (.string u.name) ∧ W'.cell? ⟨n, 1, none⟩ = some (.string u.pass) ∧ W'.cell? ⟨n, 2, none⟩ = some (.int .i64 u.id) ∧ W'.cell? ⟨n, 3, none⟩ = some (.int .i64 u.group) ∧ W'.cell? ⟨n, 4, none⟩ = some (.string u.home) ∧ W'.cell? ⟨n, 5, none⟩ = some (.string u.shell)
set_option maxHeartbeats 4000000 in
set_option maxRecDepth 100000 in
theorem line_any (u : UserS) (w : World) (hW : HasW w) (h0 : 0 ≤ u.id) (h1 : u.id ≤ 65535) (h2 : 0 ≤ u.group) (h3 : u.group ≤ 65535) (hS : (lineB u).length ≤ 140737488355328) :
    Calls Tryz.prog 195 #[.agg (userC u)] w fun e w' => e = .returned (.string ⟨(lineB u).toArray⟩) ∧ Below w.heap.size w w' := by
  have hb0 : Below w.heap.size w (w.alloc (.cells (userC u) 47)) := (Below.refl _ _).alloc (Nat.le_refl _) _
  have hu0 : UC (w.alloc (.cells (userC u) 47)) w.heap.size 0 u := box_six (u := 47) (Below.refl _ _)
  have KP : ∀ W', Below (w.alloc (.cells (userC u) 47)).heap.size (w.alloc (.cells (userC u) 47)) W' → (Below (w.alloc (.cells (userC u) 47)).heap.size (w.alloc (.cells (userC u) 47)) W' ∧ W'.cell? ⟨w.heap.size, 0, none⟩ = some (.string u.name) ∧ W'.cell? ⟨w.heap.size, 1, none⟩ = some (.string u.pass) ∧ W'.cell? ⟨w.heap.size, 2, none⟩ = some (.int .i64 u.id) ∧ W'.cell? ⟨w.heap.size, 3, none⟩ = some (.int .i64 u.group) ∧ W'.cell? ⟨w.heap.size, 4, none⟩ = some (.string u.home) ∧ W'.cell? ⟨w.heap.size, 5, none⟩ = some (.string u.shell)) := fun W' hW' => by
    have h := hu0.below hW'
    exact ⟨hW', h.g0, h.g1, h.g2, h.g3, h.g4, h.g5⟩
  have HI : ∀ W', Below (w.alloc (.cells (userC u) 47)).heap.size (w.alloc (.cells (userC u) 47)) W' → (Calls Tryz.prog 112 #[.int .i64 u.id] W' fun e w' => e = .returned (.string ⟨(decD u.id.toNat).toArray⟩) ∧ Below W'.heap.size W' w') ∧ (Calls Tryz.prog 112 #[.int .i64 u.group] W' fun e w' => e = .returned (.string ⟨(decD u.group.toNat).toArray⟩) ∧ Below W'.heap.size W' w') := fun W' hW' => by
    have h := (hW.below hb0).below hW'
    exact ⟨itoa_any _ h0 h1 _ h, itoa_any _ h2 h3 _ h⟩
  have HJ : ∀ W' : World, Calls Tryz.prog 75 #[.slice (some ⟨W'.heap.size, 0, none⟩) 6 6, .string ⟨#[58]⟩] (W'.alloc (.cells #[.string u.name, .string u.pass, .string ⟨(decD u.id.toNat).toArray⟩, .string ⟨(decD u.group.toNat).toArray⟩, .string u.home, .string u.shell] 9)) fun e w' => e = .returned (.string ⟨(lineB u).toArray⟩) ∧ Below (W'.alloc (.cells #[.string u.name, .string u.pass, .string ⟨(decD u.id.toNat).toArray⟩, .string ⟨(decD u.group.toNat).toArray⟩, .string u.home, .string u.shell] 9)).heap.size (W'.alloc (.cells #[.string u.name, .string u.pass, .string ⟨(decD u.id.toNat).toArray⟩, .string ⟨(decD u.group.toNat).toArray⟩, .string u.home, .string u.shell] 9)) w' := fun W' => by
    have h := Tryz.strings_Join W'.heap.size 0 6 (six u) ⟨#[58]⟩ (W'.alloc (.cells ((six u).map Value.string).toArray 9)) (fun j x hx => by
      rw [Nat.zero_add, heap_cell (at_new W' _) j]
      simp [hx]) (by simp) (by simp [six]) (by simp [six]) (by show (Lib.join _ [58]).length ≤ _; rw [join_six]; exact hS)
    have e : Lib.join ((six u).map (·.data.toList)) (⟨#[58]⟩ : ByteArray).data.toList = lineB u := join_six u
    rw [e] at h
    exact h
  have HB0 := Lib.hid hb0
  have HLE := Lib.hid hb0.size
  obtain ⟨c0, c1, c2, c3, c4, c5⟩ := hu0.at0
  clear hu0 hb0 hS hW
  obtain ⟨D1, hD1⟩ : ∃ D1 : ByteArray, ⟨(decD u.id.toNat).toArray⟩ = D1 := ⟨_, rfl⟩
  obtain ⟨D2, hD2⟩ : ∃ D2 : ByteArray, ⟨(decD u.group.toNat).toArray⟩ = D2 := ⟨_, rfl⟩
  simp only [hD1, hD2] at HI HJ
  clear hD1 hD2
  obtain ⟨R, hR⟩ : ∃ R : ByteArray, ⟨(lineB u).toArray⟩ = R := ⟨_, rfl⟩
  rw [hR]
  simp only [hR] at HJ
  clear hR
  unfold userC at *
  go_enter Tryz.func195, Tryz.ntmps195
  go_upto_region 1 with fail
  generalize w.alloc (.cells #[.string u.name, .string u.pass, .int .i64 u.id, .int .i64 u.group, .string u.home, .string u.shell] 47) = W0 at *
  generalize hn0 : w.heap.size = n0 at *
  go_region_held3 (fun W' => Below W0.heap.size W0 W' ∧ W'.cell? ⟨n0, 0, none⟩ = some (.string u.name) ∧ W'.cell? ⟨n0, 1, none⟩ = some (.string u.pass) ∧ W'.cell? ⟨n0, 2, none⟩ = some (.int .i64 u.id) ∧ W'.cell? ⟨n0, 3, none⟩ = some (.int .i64 u.group) ∧ W'.cell? ⟨n0, 4, none⟩ = some (.string u.home) ∧ W'.cell? ⟨n0, 5, none⟩ = some (.string u.shell))
    (first
      | exact KP _ (Below.refl _ _).drew
      | exact KP _ (Below.refl _ _)
      | exact KP _ (drewN_below (Below.refl _ _) _)
      | exact KP _ hbz
      | exact KP _ hbz.drew
      | exact KP _ (drewN_below hbz _)
      | exact KP _ ((‹Below W0.heap.size W0 _ ∧ _›).1.alloc (‹Below W0.heap.size W0 _ ∧ _›).1.size _)
      | exact KP _ (‹Below W0.heap.size W0 _ ∧ _›).1)
    (first
      | (go_at_call 112; refine ((HI _ (‹Below W0.heap.size W0 _ ∧ _›).1).1).mono ?_; rintro e w1 ⟨rfl, hb1⟩; have hbz : Below W0.heap.size W0 w1 := (‹Below W0.heap.size W0 _ ∧ _›).1.trans (hb1.mono (‹Below W0.heap.size W0 _ ∧ _›).1.size))
      | (go_at_call 112; refine ((HI _ (‹Below W0.heap.size W0 _ ∧ _›).1).2).mono ?_; rintro e w1 ⟨rfl, hb1⟩; have hbz : Below W0.heap.size W0 w1 := (‹Below W0.heap.size W0 _ ∧ _›).1.trans (hb1.mono (‹Below W0.heap.size W0 _ ∧ _›).1.size))
      | (go_at_call 75; refine (HJ _).mono ?_; rintro e w1 ⟨rfl, hb1⟩; have hbz : Below W0.heap.size W0 w1 := ((‹Below W0.heap.size W0 _ ∧ _›).1).trans (hb1.mono (‹Below W0.heap.size W0 _ ∧ _›).1.size)))
  have HB := Lib.hid (HB0.out.trans (hbz.mono HLE.out))
  clear hb1 hbz KP HI HJ
  go_wp2
  go_ret
  exact ⟨rfl, by rw [hn0]; exact HB.out⟩
end Go.Proofs.Pw
/- Print, plainly. -/
namespace Go.Proofs.Pw
open Go.RowKit

theorem own_below {w w' : World} {B n sz : Nat} {e : TypeId} {v : Value} {xs : List Value} (h : w.ownsRow B e sz v n xs) (hb : Below w.heap.size w w') : w'.ownsRow B e sz v n xs := by
  obtain ⟨h1, ⟨h2, h3⟩ | ⟨g, cap, cur, h2, hB, hh, rest⟩⟩ := h
  · exact ⟨h1, .inl ⟨h2, h3⟩⟩
  · exact ⟨h1, .inr ⟨g, cap, cur, h2, hB, below_heap hb hh, rest⟩⟩
theorem print_len : ∀ (L : List UserS), (∀ u ∈ L, mayB u = true) → (printB L).length ≤ 301 * L.length
  | [], _ => by simp [printB]
  | u :: L, h => by
    have h1 := line_len (h u (by simp))
    have h2 := print_len L (fun v hv => h v (by simp [hv]))
    rw [printB_cons]
    simp only [List.length_append, List.length_cons]
    omega
theorem print_take {L : List UserS} {k : Nat} (hk : k < L.length) : printB (L.take (k + 1)) = printB (L.take k) ++ (lineB L[k] ++ [10]) := by
  rw [List.take_succ_eq_append_getElem hk, printB_snoc, List.append_assoc]
/-- What Print tells. -/
def printS (L : List UserS) : ByteArray := if rightB L = true then ⟨(printB L).toArray⟩ else ⟨#[]⟩
end Go.Proofs.Pw
/- A line is read. -/
namespace Go.Proofs.Pw
open Go.RowKit

theorem dstep_ge (l : Bytes) : ∀ a : Nat, a ≤ l.foldl dstep a := by
  induction l with
  | nil => intro a; exact Nat.le_refl _
  | cons c l ih => intro a; exact Nat.le_trans (by unfold dstep; omega) (ih _)
theorem pum_dig : ∀ (l : Bytes) (acc : Nat), l.all isDig = true → l.foldl dstep acc ≤ 65535 → Lib.parseUintM 65535 acc l = .ok (l.foldl dstep acc)
  | [], acc, _, _ => rfl
  | c :: l, acc, hd, h => by
    rw [List.all_cons, Bool.and_eq_true] at hd
    have hc : 48 ≤ c.toNat ∧ c.toNat ≤ 57 := by have := hd.1; unfold isDig at this; simpa using this
    rw [List.foldl_cons] at h ⊢
    have hge := dstep_ge l (dstep acc c)
    have hst : acc * 10 + (c.toNat - 48) = dstep acc c := by unfold dstep; omega
    have hle : dstep acc c ≤ 65535 := by omega
    have hacc : acc ≤ 65535 := by unfold dstep at hle; omega
    rw [Lib.parseUintM, if_pos hc, if_neg (by omega), if_neg (by omega), hst, pum_dig l _ hd.2 h]
theorem pu_dec {n : Nat} (h : n ≤ 65535) : Lib.parseUintB 16 (decD n) = .ok n := by
  obtain ⟨h1, _, h3, h4⟩ := decD_facts 4 n (by omega)
  have hne : decD n ≠ [] := fun e => by rw [e] at h3; simp at h3
  unfold Lib.parseUintB
  rw [if_neg hne, show (2 : Nat) ^ 16 - 1 = 65535 by decide, pum_dig _ 0 h1 (by unfold readD at h4; rw [h4]; exact h)]
  unfold readD at h4
  rw [h4]
/-- What ParseUint tells. -/
def PuP (s : ByteArray) (w : World) (e : Ending) (w' : World) : Prop :=
  ∃ (n : Nat) (x : Value), e = .returned (.tuple #[.int .u64 n, x]) ∧ n ≤ 65535 ∧ Below w.heap.size w w' ∧ ((x = .nilIface ∧ Lib.parseUintB 16 s.data.toList = .ok n) ∨ ((∃ N, x = .iface 169 (.pointer (some ⟨N, 0, none⟩))) ∧ ∀ m, Lib.parseUintB 16 s.data.toList ≠ .ok m))
theorem bytes_below (w : World) (t : ByteArray) : Below w.heap.size w (Lib.bytesWorld w 5 t) :=
  ⟨rfl, rfl, rfl, by rw [Lib.bytesWorld_size]; omega, fun j hj => Lib.bytesWorld_at_old w 5 t j hj⟩
theorem pu_any (s : ByteArray) (w : World) (hs : s.size ≤ 1000000) (hW : HasW w) : Calls Tryz.prog 109 #[.string s, .int .i64 10, .int .i64 16] w (PuP s w) := by
  cases hp : Lib.parseUintB 16 s.data.toList with
  | ok u =>
    refine (Tryz.strconv_ParseUint_10_at16_ok s (by omega) u hp w).mono ?_
    rintro e w' ⟨rfl, hw⟩
    refine ⟨u, _, rfl, by have := Lib.parseUintB_le hp; simpa using this, ?_, .inl ⟨rfl, hp⟩⟩
    rcases hw with rfl | rfl
    · exact Below.refl _ _
    · exact bytes_below w s
  | range =>
    obtain ⟨u, v, hv⟩ := hW.rng
    refine (Tryz.strconv_ParseUint_10_at16_range s (by omega) hp _ w hv (.inr ⟨_, _, rfl⟩)).mono ?_
    rintro e w' ⟨N, rfl, _, _, hb⟩
    exact ⟨65535, _, rfl, by omega, hb, .inr ⟨⟨N, rfl⟩, fun m h => by rw [hp] at h; cases h⟩⟩
  | _ =>
    obtain ⟨u, v, hv⟩ := hW.syn
    refine (Tryz.strconv_ParseUint_10_at16_syntax s (by omega) hp _ w hv (.inr ⟨_, _, rfl⟩)).mono ?_
    rintro e w' ⟨N, rfl, _, _, hb⟩
    exact ⟨0, _, rfl, by omega, hb, .inr ⟨⟨N, rfl⟩, fun m h => by rw [hp] at h; cases h⟩⟩
/-- A line's pieces. -/
def pieces (s : ByteArray) : List ByteArray := Lib.splitB ⟨#[58]⟩ 0 (Lib.countB s ⟨#[58]⟩) s
theorem pieces_len (s : ByteArray) : (pieces s).length = Lib.countB s ⟨#[58]⟩ + 1 := Lib.splitB_all ⟨#[58]⟩ (by decide) 0 _ s rfl
theorem pieces_data (s : ByteArray) : (pieces s).map (·.data.toList) = splitD 58 [] s.data.toList := by
  unfold pieces
  rw [Lib.splitB_data, ← splitK_D]
  have h : Lib.countB s ⟨#[58]⟩ = s.data.toList.count 58 := Lib.count_one 58 s.data.toList
  rw [h]
theorem piece_size (sep : ByteArray) : ∀ (n : Nat) (s : ByteArray), ∀ x ∈ Lib.splitB sep 0 n s, x.size ≤ s.size
  | 0, s, x, hx => by
    rw [Lib.splitB_zero] at hx
    simp at hx
    rw [hx]; exact Nat.le_refl _
  | n + 1, s, x, hx => by
    unfold Lib.splitB at hx
    split at hx
    · simp at hx; rw [hx]; exact Nat.le_refl _
    · rcases List.mem_cons.1 hx with rfl | hx
      · rw [ByteArray.size_extract]; exact Nat.le_trans (Nat.sub_le _ _) (Nat.min_le_right _ _)
      · have := piece_size sep n _ x hx
        rw [ByteArray.size_extract] at this
        omega
theorem line_pieces {s : ByteArray} {v : UserS} (h : IsLine s.data.toList v) : (pieces s).map (·.data.toList) = [v.name.data.toList, v.pass.data.toList, decD v.id.toNat, decD v.group.toNat, v.home.data.toList, v.shell.data.toList] := by
  rw [pieces_data, ← h.2, line_split h.1]
/-- What read tells of a line. -/
def ReadP (s : ByteArray) (w : World) (e : Ending) (w' : World) : Prop :=
  ∃ (u : UserS) (ok : Bool), e = .returned (.tuple #[.agg (userC u), .bool ok]) ∧ Below w.heap.size w w' ∧ (ok = true → IsLine s.data.toList u) ∧ (ok = false → ∀ v, ¬ IsLine s.data.toList v)
theorem leave16 {T : Array Value} {W : World} (n0 : Nat) {f : UserS} {b : Bool} (hT4 : T[2]? = some (.pointer (some ⟨n0, 0, none⟩))) (hT5 : T[3]? = some (.bool b))
    (hres : W.heap[n0]? = some (.cells (userC f) 47 (0, 0))) {R : Ending → World → Prop} (hR : R (.returned (.tuple #[.agg (userC f), .bool b])) W) :
    bodyPost Tryz.prog Tryz.f168 R Exit.ret { tmps := T, defers := [] } W := by
  have c0 : W.cell? ⟨n0, 0, none⟩ = some (.string f.name) := heap_cell hres 0
  have c1 : W.cell? ⟨n0, 1, none⟩ = some (.string f.pass) := heap_cell hres 1
  have c2 : W.cell? ⟨n0, 2, none⟩ = some (.int .i64 f.id) := heap_cell hres 2
  have c3 : W.cell? ⟨n0, 3, none⟩ = some (.int .i64 f.group) := heap_cell hres 3
  have c4 : W.cell? ⟨n0, 4, none⟩ = some (.string f.home) := heap_cell hres 4
  have c5 : W.cell? ⟨n0, 5, none⟩ = some (.string f.shell) := heap_cell hres 5
  exact bodyPost_ret (v := .tuple #[.agg (userC f), .bool b]) (by simp [results, Tryz.results94, go_sem, hT4, hT5, c0, c1, c2, c3, c4, c5, userC]) rfl hR
theorem read_two {x0 x1 x2 x3 x4 x5 : ByteArray} {v : UserS} (hm : mayB v = true) (h : [x0, x1, x2, x3, x4, x5].map (fun x : ByteArray => x.data.toList) = [v.name.data.toList, v.pass.data.toList, decD v.id.toNat, decD v.group.toNat, v.home.data.toList, v.shell.data.toList]) :
    Lib.parseUintB 16 x2.data.toList = .ok v.id.toNat ∧ Lib.parseUintB 16 x3.data.toList = .ok v.group.toNat := by
  have m := mayP hm
  simp only [List.map_cons, List.map_nil, List.cons.injEq, and_true] at h
  obtain ⟨_, _, h2, h3, _, _⟩ := h
  rw [h2, h3]
  exact ⟨pu_dec (by have := m.id1; omega), pu_dec (by have := m.g1; omega)⟩
theorem read_uniq {x0 x1 x2 x3 x4 x5 : ByteArray} {v : UserS} {n2 n3 : Nat} (hm : mayB v = true) (h : [x0, x1, x2, x3, x4, x5].map (fun x : ByteArray => x.data.toList) = [v.name.data.toList, v.pass.data.toList, decD v.id.toNat, decD v.group.toNat, v.home.data.toList, v.shell.data.toList])
    (h2 : Lib.parseUintB 16 x2.data.toList = .ok n2) (h3 : Lib.parseUintB 16 x3.data.toList = .ok n3) : v = ⟨x0, x1, n2, n3, x4, x5⟩ := by
  obtain ⟨k2, k3⟩ := read_two hm h
  rw [h2] at k2
  rw [h3] at k3
  have e2 : n2 = v.id.toNat := by cases k2; rfl
  have e3 : n3 = v.group.toNat := by cases k3; rfl
  have m := mayP hm
  have i0 := m.id0
  have i1 := m.g0
  simp only [List.map_cons, List.map_nil, List.cons.injEq, and_true] at h
  obtain ⟨a0, a1, _, _, a4, a5⟩ := h
  obtain ⟨b0, b1, b2, b3, b4, b5⟩ := v
  simp only at *
  simp only [UserS.mk.injEq]
  exact ⟨(ba_eq a0).symm, (ba_eq a1).symm, by omega, by omega, (ba_eq a4).symm, (ba_eq a5).symm⟩
/-- What stands while a line is judged: the user's box, and the result's row. -/
structure Core (w : World) (n4 : Nat) (u : UserS) (W : World) : Prop where
  below : Below w.heap.size w W
  box : UC W n4 0 u
  ne : n4 ≠ w.heap.size
  row : ∃ g, W.heap[w.heap.size]? = some (.cells (userC g) 47 (0, 0))
def rdc (w W : World) (i : Nat) : Value := (W.cell? ⟨w.heap.size, i, none⟩).getD (.bool false)
theorem Core.step {w W W' : World} {n4 : Nat} {u : UserS} (h : Core w n4 u W) (hb : Below W.heap.size W W') : Core w n4 u W' := by
  obtain ⟨g, hg⟩ := h.row
  exact ⟨h.below.trans (hb.mono h.below.size), h.box.below hb, h.ne, g, below_heap hb hg⟩
theorem Core.six {w W : World} {n4 : Nat} {u : UserS} (h : Core w n4 u W) (f : UserS) :
    Core w n4 u ((((((W.setCell ⟨w.heap.size, 0, none⟩ (.string f.name)).setCell ⟨w.heap.size, 1, none⟩ (.string f.pass)).setCell ⟨w.heap.size, 2, none⟩ (.int .i64 f.id)).setCell ⟨w.heap.size, 3, none⟩ (.int .i64 f.group)).setCell ⟨w.heap.size, 4, none⟩ (.string f.home)).setCell ⟨w.heap.size, 5, none⟩ (.string f.shell)) := by
  show Core w n4 u (sixW W w.heap.size (.string f.name) (.string f.pass) (.int .i64 f.id) (.int .i64 f.group) (.string f.home) (.string f.shell))
  obtain ⟨g, hg⟩ := h.row
  refine ⟨sixW_below h.below (Nat.le_refl _) _ _ _ _ _ _, ?_, h.ne, f, sixW_at hg f⟩
  have k : ∀ i v, W.cell? ⟨n4, i, none⟩ = some v → (sixW W w.heap.size (.string f.name) (.string f.pass) (.int .i64 f.id) (.int .i64 f.group) (.string f.home) (.string f.shell)).cell? ⟨n4, i, none⟩ = some v := fun i v hv => by
    unfold sixW
    have hne := h.ne
    have e : ∀ (X : World) (j : Nat) (x : Value), (X.setCell ⟨w.heap.size, j, none⟩ x).cell? ⟨n4, i, none⟩ = X.cell? ⟨n4, i, none⟩ := fun X j x => World.cell?_setCell_other _ _ _ _ (fun e => by simp only [Addr.mk.injEq] at e; have := h.ne; omega)
    rw [e, e, e, e, e, e]; exact hv
  exact ⟨k _ _ h.box.g0, k _ _ h.box.g1, k _ _ h.box.g2, k _ _ h.box.g3, k _ _ h.box.g4, k _ _ h.box.g5⟩
theorem Core.all {w W : World} {n4 : Nat} {u : UserS} (h : Core w n4 u W) :
    Core w n4 u W ∧ (W.cell? ⟨n4, 0, none⟩ = some (.string u.name) ∧ W.cell? ⟨n4, 1, none⟩ = some (.string u.pass) ∧ W.cell? ⟨n4, 2, none⟩ = some (.int .i64 u.id) ∧ W.cell? ⟨n4, 3, none⟩ = some (.int .i64 u.group) ∧ W.cell? ⟨n4, 4, none⟩ = some (.string u.home) ∧ W.cell? ⟨n4, 5, none⟩ = some (.string u.shell)) ∧
    (W.cell? ⟨w.heap.size, 0, none⟩ = some (rdc w W 0) ∧ W.cell? ⟨w.heap.size, 1, none⟩ = some (rdc w W 1) ∧ W.cell? ⟨w.heap.size, 2, none⟩ = some (rdc w W 2) ∧ W.cell? ⟨w.heap.size, 3, none⟩ = some (rdc w W 3) ∧ W.cell? ⟨w.heap.size, 4, none⟩ = some (rdc w W 4) ∧ W.cell? ⟨w.heap.size, 5, none⟩ = some (rdc w W 5)) ∧
    (W.frozen? ⟨w.heap.size, 0, none⟩ = false ∧ W.frozen? ⟨w.heap.size, 1, none⟩ = false ∧ W.frozen? ⟨w.heap.size, 2, none⟩ = false ∧ W.frozen? ⟨w.heap.size, 3, none⟩ = false ∧ W.frozen? ⟨w.heap.size, 4, none⟩ = false ∧ W.frozen? ⟨w.heap.size, 5, none⟩ = false) := by
  obtain ⟨g, hg⟩ := h.row
  obtain ⟨⟨e0, e1, e2, e3, e4, e5⟩, hz⟩ := six_facts hg
  refine ⟨h, h.box.at0, ⟨?_, ?_, ?_, ?_, ?_, ?_⟩, hz⟩
  · unfold rdc; rw [e0]; rfl
  · unfold rdc; rw [e1]; rfl
  · unfold rdc; rw [e2]; rfl
  · unfold rdc; rw [e3]; rfl
  · unfold rdc; rw [e4]; rfl
  · unfold rdc; rw [e5]; rfl
end Go.Proofs.Pw
