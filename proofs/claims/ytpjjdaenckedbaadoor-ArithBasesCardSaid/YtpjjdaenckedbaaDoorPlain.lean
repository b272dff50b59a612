/- Expressions: what their texts are, and what they make. No program in sight. -/
import Derived.RowKit
namespace Go.Proofs.YtpjjdaenckedbaaDoor
open Go.RowKit

abbrev Bytes := List UInt8
def isB (c : UInt8) : Bool := c == 32 || c == 9 || c == 10
def blank (l : Bytes) : Bytes := l.dropWhile isB
def signsL : List Bytes := [[60,60,61],[62,62,61],[42,61],[47,61],[37,61],[43,61],[45,61],[38,61],[94,61],[124,61],[124,124],[38,38],[61,61],[33,61],[60,61],[62,61],[60,60],[62,62],[61],[63],[58],[124],[94],[38],[60],[62],[43],[45],[42],[47],[37],[126],[33],[40],[41]]
def rowsL : List (List Bytes) := [[[124,124]],[[38,38]],[[124]],[[94]],[[38]],[[61,61],[33,61]],[[60],[60,61],[62],[62,61]],[[60,60],[62,62]],[[43],[45]],[[42],[47],[37]]]
/-- The first of some signs that a text begins with. -/
def sgnIn : List Bytes → Bytes → Bytes
  | [], _ => []
  | s :: ss, l => if s.isPrefixOf l then s else sgnIn ss l
def sgn (l : Bytes) : Bytes := sgnIn signsL l
def isLet (c : UInt8) : Bool := (97 ≤ (c ||| 32).toNat && (c ||| 32).toNat ≤ 122) || c == 95
def isDig (c : UInt8) : Bool := 48 ≤ c.toNat && c.toNat ≤ 57
def isW (c : UInt8) : Bool := isLet c || isDig c
def word (l : Bytes) : Bytes := l.takeWhile isW
def hasLet : Bytes → Bool
  | [] => false
  | c :: _ => isLet c
def digV (c : UInt8) : Nat := if 48 ≤ c.toNat ∧ c.toNat ≤ 57 then c.toNat - 48 else if 97 ≤ (c ||| 32).toNat ∧ (c ||| 32).toNat ≤ 102 then (c ||| 32).toNat - 97 + 10 else 16
def foldN (base : Nat) : Bytes → Nat → Option Nat
  | [], n => some n
  | c :: l, n => if base ≤ digV c then none else foldN base l ((n * base + digV c) % 18446744073709551616)
def headIs (p l : Bytes) : Bool := p.isPrefixOf l
def constB (s : Bytes) : Nat × Bytes := if headIs [48,120] s || headIs [48,88] s then (16, s.drop 2) else if headIs [48] s then (8, s) else (10, s)
def constantS (s : Bytes) : Option Int := if (constB s).2 = [] then none else (foldN (constB s).1 (constB s).2 0).map fun (n : Nat) => IntKind.i64.wrap (n : Int)
/-- A part of an expression. -/
inductive T
  | num (n : Int)
  | name (w : Bytes)
  | set (s w : Bytes) (k : T)
  | cond (a b c : T)
  | two (s : Bytes) (a b : T)
  | un (s : Bytes) (a : T)
deriving DecidableEq
inductive Fn
  | sets
  | choice
  | one
deriving DecidableEq
abbrev Res := Option (T × Bytes)
def isUn (s : Bytes) : Bool := s == [43] || s == [45] || s == [126] || s == [33]
def isSet (s : Bytes) : Bool := s.getLast? == some 61 && !(s == [61,61] || s == [33,61] || s == [60,61] || s == [62,61])
def atomR (l : Bytes) : Res := if hasLet (word l) then some (.name (word l), l.drop (word l).length) else (constantS (word l)).map fun n => (.num n, l.drop (word l).length)
def closeR (s : Bytes) (k : T → Bytes → Res) : Res → Res
  | none => none
  | some (t, r) => if sgn (blank r) = s then k t ((blank r).drop s.length) else none
def unR (s : Bytes) (x : Res) : Res := x.map fun p => (.un s p.1, p.2)
def oneR (lev : Fn → Bytes → Res) (l : Bytes) : Res :=
  if isUn (sgn (blank l)) then unR (sgn (blank l)) (lev .one ((blank l).drop 1))
  else if sgn (blank l) = [40] then closeR [41] (fun t r => some (t, r)) (lev .sets ((blank l).drop 1))
  else atomR (blank l)
def loopR (f : Bytes → Res) (ops : List Bytes) : Nat → T → Bytes → Res
  | 0, _, _ => none
  | k + 1, n, l => if ops.contains (sgn (blank l)) then
      (match f ((blank l).drop (sgn (blank l)).length) with
      | none => none
      | some (m, r) => loopR f ops k (.two (sgn (blank l)) n m) r)
    else some (n, blank l)
def opsAt (i : Nat) : List Bytes := rowsL.getD i []
/-- The rows of two: `k` of them stand below. -/
def rowR (lev : Fn → Bytes → Res) : Nat → Bytes → Res
  | 0, l => lev .one l
  | k + 1, l => match rowR lev k l with
    | none => none
    | some (n, r) => loopR (rowR lev k) (opsAt (9 - k)) (r.length + 1) n r
def condR (lev : Fn → Bytes → Res) (n : T) (l : Bytes) : Res :=
  if sgn (blank l) = [63] then closeR [58] (fun a r => (lev .choice r).map fun p => (.cond n a p.1, p.2)) (lev .sets ((blank l).drop 1)) else some (n, blank l)
def choiceR (lev : Fn → Bytes → Res) (l : Bytes) : Res := (rowR lev 10 l).bind fun p => condR lev p.1 p.2
def setsR (lev : Fn → Bytes → Res) (l : Bytes) : Res :=
  if hasLet (word (blank l)) then
    (if isSet (sgn (blank ((blank l).drop (word (blank l)).length))) then
      (lev .sets ((blank ((blank l).drop (word (blank l)).length)).drop (sgn (blank ((blank l).drop (word (blank l)).length))).length)).map fun p => (.set (sgn (blank ((blank l).drop (word (blank l)).length))) (word (blank l)) p.1, p.2)
    else lev .choice l)
  else lev .choice (blank l)
def stepR (lev : Fn → Bytes → Res) : Fn → Bytes → Res
  | .sets => setsR lev
  | .choice => choiceR lev
  | .one => oneR lev
/-- What stands `R` levels above the deepest one. -/
def PL : Nat → Fn → Bytes → Res
  | 0 => fun _ _ => none
  | R + 1 => stepR (PL R)
/-- The whole text. -/
def readS (s : Bytes) : Option T := match PL 25 .sets (blank s) with
  | none => none
  | some (t, r) => if blank r = [] then some t else none

/-! What it makes. -/
structure VarS where
  name : Bytes
  value : Bytes
deriving DecidableEq
def w64 (n : Int) : Int := IntKind.i64.wrap n
def and64 (a b : Int) : Int := IntKind.i64.wrap (BitVec.ofInt 64 a &&& BitVec.ofInt 64 b).toNat
def or64 (a b : Int) : Int := IntKind.i64.wrap (BitVec.ofInt 64 a ||| BitVec.ofInt 64 b).toNat
def xor64 (a b : Int) : Int := IntKind.i64.wrap (BitVec.ofInt 64 a ^^^ BitVec.ofInt 64 b).toNat
def truthS (b : Bool) : Int := if b then 1 else 0
def numV (s : Bytes) : Option Int := if s = [] then some 0 else if headIs [45] s then (constantS (s.drop 1)).map fun n => w64 (0 - n) else constantS s
def findV (x : Bytes) : List VarS → Option Bytes
  | [] => none
  | v :: l => if v.name = x then some v.value else findV x l
def lookV (vars set : List VarS) (x : Bytes) : Bytes := match findV x set with
  | some s => s
  | none => (findV x vars).getD []
def putV (x v : Bytes) : List VarS → List VarS
  | [] => [⟨x, v⟩]
  | u :: l => if u.name = x then ⟨u.name, v⟩ :: l else u :: putV x v l
def dch (d : Nat) : UInt8 := UInt8.ofNat (48 + d)
def decN (u : Nat) : Bytes := if h : u ≤ 9 then [dch u] else decN (u / 10) ++ [dch (u % 10)]
/-- A number, as it is written. -/
def decI (n : Int) : Bytes := if n < 0 then 45 :: decN n.natAbs else decN n.natAbs
/-- A number of two; nothing: divided by nothing. -/
def twoV (s : Bytes) (a b : Int) : Option Int :=
  if s = [124] then some (or64 a b) else if s = [94] then some (xor64 a b) else if s = [38] then some (and64 a b)
  else if s = [61,61] then some (truthS (decide (a = b))) else if s = [33,61] then some (truthS (!decide (a = b)))
  else if s = [60] then some (truthS (decide (a < b))) else if s = [60,61] then some (truthS (decide (a ≤ b)))
  else if s = [62] then some (truthS (decide (b < a))) else if s = [62,61] then some (truthS (decide (b ≤ a)))
  else if s = [60,60] then some (w64 (a * 2 ^ (min (and64 b 63).toNat 64))) else if s = [62,62] then some (a.fdiv (2 ^ (min (and64 b 63).toNat 64)))
  else if s = [43] then some (w64 (a + b)) else if s = [45] then some (w64 (a - b)) else if s = [42] then some (w64 (a * b))
  else if b = 0 then none else if s = [47] then some (w64 (a.tdiv b)) else some (a.tmod b)
abbrev Ev := Except Int (Int × List VarS)
def unV (s : Bytes) (x : Int) : Int := if s = [45] then w64 (0 - x) else if s = [126] then xor64 (-1) x else if s = [33] then truthS (decide (x = 0)) else x
def bindE (x : Ev) (f : Int → List VarS → Ev) : Ev := match x with
  | .error e => .error e
  | .ok p => f p.1 p.2
def ofE (x : Option Int) (e : Int) (st : List VarS) : Ev := match x with
  | none => .error e
  | some n => .ok (n, st)
def storeE (x : Bytes) (v : Int) (st : List VarS) : Ev := .ok (v, putV x (decI v) st)
def setE (vars : List VarS) (s x : Bytes) (v : Int) (st : List VarS) : Ev :=
  if s.dropLast = [] then storeE x v st
  else bindE (ofE (numV (lookV vars st x)) 20 st) fun a st => bindE (ofE (twoV s.dropLast a v) 22 st) fun u st => storeE x u st
def ev (vars : List VarS) : T → List VarS → Ev
  | .num n, st => .ok (n, st)
  | .name x, st => ofE (numV (lookV vars st x)) 20 st
  | .set s x k, st => bindE (ev vars k st) fun v st => setE vars s x v st
  | .cond a b c, st => bindE (ev vars a st) fun x st => if x ≠ 0 then ev vars b st else ev vars c st
  | .two s a b, st => bindE (ev vars a st) fun x st =>
      if s = [124,124] then (if x ≠ 0 then .ok (1, st) else bindE (ev vars b st) fun y st => .ok (truthS (decide (y ≠ 0)), st))
      else if s = [38,38] then (if x = 0 then .ok (0, st) else bindE (ev vars b st) fun y st => .ok (truthS (decide (y ≠ 0)), st))
      else bindE (ev vars b st) fun y st => ofE (twoV s x y) 22 st
  | .un s a, st => bindE (ev vars a st) fun x st => .ok (unV s x, st)
/-- An expression's answer. -/
def valueS (s : Bytes) (vars : List VarS) : Int × List VarS × Int :=
  if 256 < s.length then (0, [], 17) else if blank s = [] then (0, [], 0) else
  match readS s with
  | none => (0, [], 17)
  | some t => match ev vars t [] with
    | .error e => (0, [], e)
    | .ok (v, st) => (v, st, 0)
def B (l : Bytes) : ByteArray := ⟨⟨l⟩⟩
theorem B_inj {l m : Bytes} (h : B l = B m) : l = m := by
  have h1 : (B l).data.toList = (B m).data.toList := by rw [h]
  exact h1
theorem B_eq (l m : Bytes) : (B l = B m) = (l = m) := propext ⟨B_inj, fun h => by rw [h]⟩
end Go.Proofs.YtpjjdaenckedbaaDoor
