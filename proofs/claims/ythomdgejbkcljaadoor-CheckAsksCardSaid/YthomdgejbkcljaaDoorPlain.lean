/- Plain words of Check: numbers, operators, what arguments tell. -/
import Derived.Lib.ParseIntB
import Derived.WalkKit
import Derived.Lib.Hide
namespace Go.Proofs.YthomdgejbkcljaaDoor
open Go.RowKit

abbrev Bytes := List UInt8
def isDig (c : UInt8) : Bool := decide (48 ≤ c.toNat) && decide (c.toNat ≤ 57)
def dstep (a : Nat) (c : UInt8) : Nat := 10 * a + (c.toNat - 48)
def readD (l : Bytes) : Nat := l.foldl dstep 0
def digitsOf (l : Bytes) : Bytes := match l with
  | [] => []
  | c :: r => if c = 45 then r else c :: r
def negOf (l : Bytes) : Bool := match l with
  | [] => false
  | c :: _ => c == 45
/-- The number that a text is. -/
def numS (l : Bytes) : Option Int :=
  if digitsOf l ≠ [] ∧ (digitsOf l).length ≤ 18 ∧ (digitsOf l).all isDig = true then some (if negOf l = true then -(readD (digitsOf l) : Int) else readD (digitsOf l)) else none
theorem pum_dig : ∀ (l : Bytes) (acc k : Nat), k + l.length ≤ 18 → acc < 10 ^ k → l.all isDig = true → Lib.parseUintM (2 ^ 64 - 1) acc l = .ok (l.foldl dstep acc) ∧ l.foldl dstep acc < 10 ^ (k + l.length)
  | [], acc, k, _, ha, _ => ⟨rfl, by simpa using ha⟩
  | c :: l, acc, k, hk, ha, hd => by
    rw [List.all_cons, Bool.and_eq_true] at hd
    have hc : 48 ≤ c.toNat ∧ c.toNat ≤ 57 := by have := hd.1; unfold isDig at this; simpa using this
    have hp : 10 ^ k ≤ 10 ^ 17 := Nat.pow_le_pow_right (by decide) (by simp at hk; omega)
    have h17 : (10 : Nat) ^ 17 = 100000000000000000 := by decide
    have hst : acc * 10 + (c.toNat - 48) = dstep acc c := by unfold dstep; omega
    have hn : dstep acc c < 10 ^ (k + 1) := by unfold dstep; rw [Nat.pow_succ]; omega
    obtain ⟨h1, h2⟩ := pum_dig l (dstep acc c) (k + 1) (by simp at hk; omega) hn hd.2
    refine ⟨?_, ?_⟩
    · rw [Lib.parseUintM, if_pos hc, if_neg (by omega), if_neg (by have : (2 : Nat) ^ 64 - 1 = 18446744073709551615 := by decide
                                                                   omega), hst, h1]
      rfl
    · rw [List.foldl_cons, List.length_cons, show k + (l.length + 1) = k + 1 + l.length by omega]
      exact h2
theorem readD_lt {l : Bytes} (h : l.length ≤ 18) (hd : l.all isDig = true) : readD l < 10 ^ 18 := by
  have h1 := (pum_dig l 0 0 (by omega) (by decide) hd).2
  have h2 : 10 ^ (0 + l.length) ≤ 10 ^ 18 := Nat.pow_le_pow_right (by decide) (by omega)
  exact Nat.lt_of_lt_of_le h1 h2
theorem parse_num {l : Bytes} {v : Int} (h : numS l = some v) : Lib.parseIntB 64 l = .ok v := by
  unfold numS at h
  split at h
  · rename_i hc
    obtain ⟨h0, h18, hd⟩ := hc
    simp only [Option.some.injEq] at h
    have hp := (pum_dig (digitsOf l) 0 0 (by omega) (by decide) hd).1
    have hlt := readD_lt h18 hd
    have h1018 : (10 : Nat) ^ 18 = 1000000000000000000 := by decide
    have h263 : (2 : Nat) ^ (64 - 1) = 9223372036854775808 := by decide
    cases l with
    | nil => exact absurd rfl h0
    | cons c r =>
      by_cases hc : c = 45
      · subst hc
        have hdo : digitsOf (45 :: r) = r := rfl
        rw [hdo] at h0 hp hlt h
        have hpu : Lib.parseUintB 64 r = .ok (readD r) := by unfold Lib.parseUintB; rw [if_neg h0, hp]; rfl
        unfold Lib.parseIntB
        simp only [show (45 : UInt8).toNat = 45 from rfl, or_true, if_true, hpu, not_true_eq_false, false_and, if_false, true_and]
        rw [if_neg (by omega), ← h]
        rfl
      · have hdo : digitsOf (c :: r) = c :: r := by unfold digitsOf; simp only [if_neg hc]
        have hng : negOf (c :: r) = false := by unfold negOf; simpa using hc
        rw [hdo] at h0 hp hlt h hd
        rw [hng] at h
        have hdc : 48 ≤ c.toNat ∧ c.toNat ≤ 57 := by
          have := hd
          rw [List.all_cons, Bool.and_eq_true] at this
          have := this.1
          unfold isDig at this; simpa using this
        have n43 : ¬ (c.toNat = 43 ∨ c.toNat = 45) := by omega
        have n45 : ¬ c.toNat = 45 := by omega
        have hpu : Lib.parseUintB 64 (c :: r) = .ok (readD (c :: r)) := by unfold Lib.parseUintB; rw [if_neg h0, hp]; rfl
        unfold Lib.parseIntB
        simp only [n45, or_false, show ¬ c.toNat = 43 by omega, if_false, hpu, not_false_eq_true, true_and, false_and]
        rw [if_neg (by omega), ← h]
        simp
  · cases h

def truthN (b : Bool) : Nat := if b then 0 else 1
/-- A path's facts. -/
structure FactS where
  path : ByteArray
  is : Bool
  ino : Int
  kind : Int
  mode : Int
  owner : Int
  group : Int
  links : Int
  size : Int
  tty : Int
  may : Int
/-- What is told: a number, or a path that is asked for. -/
abbrev Told := Nat ⊕ ByteArray
def b1 (a : UInt8) : ByteArray := ⟨#[a]⟩
def b2 (a b : UInt8) : ByteArray := ⟨#[a, b]⟩
def b3 (a b c : UInt8) : ByteArray := ⟨#[a, b, c]⟩
/-- Three truths of an operator of numbers: below, the same, above. -/
def tri (op : ByteArray) : Option (Bool × Bool × Bool) :=
  if op = b3 45 101 113 then some (false, true, false) else if op = b3 45 110 101 then some (true, false, true) else if op = b3 45 108 116 then some (true, false, false)
  else if op = b3 45 108 101 then some (true, true, false) else if op = b3 45 103 116 then some (false, false, true) else if op = b3 45 103 101 then some (false, true, true) else none
def twoS (x op y : ByteArray) : Option Nat :=
  if op = b1 61 then some (truthN (decide (x = y))) else if op = b2 33 61 then some (truthN (!decide (x = y)))
  else match tri op with
    | none => none
    | some t => match numS x.data.toList, numS y.data.toList with
      | some a, some b => some (truthN (if a < b then t.1 else if a = b then t.2.1 else t.2.2))
      | _, _ => some 2
def fileOp (op : ByteArray) : Bool := decide (op = b2 45 101) || decide (op = b2 45 102) || decide (op = b2 45 100) || decide (op = b2 45 99) || decide (op = b2 45 115) || decide (op = b2 45 114) || decide (op = b2 45 119) || decide (op = b2 45 120)
/-- What a fact says of an operator; the bits of a right by the model's own 'and'. -/
def saysS (op : ByteArray) (f : FactS) : Bool :=
  f.is && (if op = b2 45 102 then decide (f.kind = 0) else if op = b2 45 100 then decide (f.kind = 1) else if op = b2 45 99 then decide (f.kind = 2)
    else if op = b2 45 115 then decide (0 < f.size) else if op = b2 45 114 then !decide (bits .and .i64 f.may 4 = 0) else if op = b2 45 119 then !decide (bits .and .i64 f.may 2 = 0)
    else if op = b2 45 120 then !decide (bits .and .i64 f.may 1 = 0) else true)
def oneS (op x : ByteArray) (fs : List FactS) : Told :=
  if op = b2 45 110 then .inl (truthN (!decide (x.size = 0))) else if op = b2 45 122 then .inl (truthN (decide (x.size = 0)))
  else if fileOp op = true then (match fs.find? (fun f => decide (f.path = x)) with
    | none => .inr x
    | some f => .inl (truthN (saysS op f)))
  else .inl 2
def notS : Told → Told
  | .inl n => .inl (if n = 2 then 2 else 1 - n)
  | .inr x => .inr x
def tellsS : List ByteArray → List FactS → Told
  | [], _ => .inl 1
  | [a], _ => .inl (truthN (!decide (a.size = 0)))
  | [a, b], fs => if a = b1 33 then notS (.inl (truthN (!decide (b.size = 0)))) else oneS a b fs
  | [a, b, c], fs => match twoS a b c with
    | some t => .inl t
    | none => if a = b1 33 then notS (if b = b1 33 then notS (.inl (truthN (!decide (c.size = 0)))) else oneS b c fs)
      else if a = b1 40 ∧ c = b1 41 then .inl (truthN (!decide (b.size = 0))) else .inl 2
  | [a, b, c, d], fs => if a = b1 33 then notS (match twoS b c d with
      | some t => .inl t
      | none => if b = b1 33 then notS (if c = b1 33 then notS (.inl (truthN (!decide (d.size = 0)))) else oneS c d fs)
        else if b = b1 40 ∧ d = b1 41 then .inl (truthN (!decide (c.size = 0))) else .inl 2)
    else if a = b1 40 ∧ d = b1 41 then (if b = b1 33 then notS (.inl (truthN (!decide (c.size = 0)))) else oneS b c fs) else .inl 2
  | _, _ => .inl 2
end Go.Proofs.YthomdgejbkcljaaDoor
