/- Expressions of the laws: what they make. No program in sight. -/
import Derived.Test.YtpjjdaenckedbaaDoorNum
namespace Go.Proofs.YtpjjdaenckedbaaDoor
open Go.RowKit

def x1S : Bytes := [97,32,43,32,98,32,45,32,40,97,32,45,32,98,41,32,42,32,40,97,32,42,32,98,41]
def x2S : Bytes := [40,97,32,60,32,98,41,32,43,32,40,97,32,60,61,32,98,41,32,42,32,50,32,43,32,40,97,32,61,61,32,98,41,32,42,32,52,32,43,32,40,97,32,33,61,32,98,41,32,42,32,56,32,43,32,40,97,32,62,32,98,41,32,42,32,49,54,32,43,32,40,97,32,62,61,32,98,41,32,42,32,51,50]
def x3S : Bytes := [40,97,32,38,32,98,41,32,94,32,40,97,32,124,32,98,41,32,94,32,97,32,94,32,98,32,94,32,126,97]
def x4S : Bytes := [113,32,61,32,97,32,47,32,98,44,32,48]
def x5S : Bytes := [40,97,32,47,32,98,41,32,42,32,98,32,43,32,97,32,37,32,98]
def b1S : Bytes := [97,32,60,60,32,107]
def b2S : Bytes := [97,32,62,62,32,107]
def b3S : Bytes := [40,97,32,38,32,97,41,32,45,32,40,97,32,124,32,97,41,32,43,32,40,97,32,94,32,97,41,32,43,32,40,126,97,32,43,32,97,41]
def h1S : Bytes := [49,32,43,32,50,32,42,32,51]
def h2S : Bytes := [97,32,43,61,32,50]
def h3S : Bytes := [48,32,38,38,32,40,120,32,61,32,49,41]
def h4S : Bytes := [49,32,47,32,48]
theorem tw_or (a b : Int) : twoV [124] a b = some (or64 a b) := rfl
theorem tw_xor (a b : Int) : twoV [94] a b = some (xor64 a b) := rfl
theorem tw_and (a b : Int) : twoV [38] a b = some (and64 a b) := rfl
theorem tw_eq (a b : Int) : twoV [61,61] a b = some (truthS (decide (a = b))) := rfl
theorem tw_ne (a b : Int) : twoV [33,61] a b = some (truthS (!decide (a = b))) := rfl
theorem tw_lt (a b : Int) : twoV [60] a b = some (truthS (decide (a < b))) := rfl
theorem tw_le (a b : Int) : twoV [60,61] a b = some (truthS (decide (a ≤ b))) := rfl
theorem tw_gt (a b : Int) : twoV [62] a b = some (truthS (decide (b < a))) := rfl
theorem tw_ge (a b : Int) : twoV [62,61] a b = some (truthS (decide (b ≤ a))) := rfl
theorem tw_shl (a b : Int) : twoV [60,60] a b = some (w64 (a * 2 ^ (min (and64 b 63).toNat 64))) := rfl
theorem tw_shr (a b : Int) : twoV [62,62] a b = some (a.fdiv (2 ^ (min (and64 b 63).toNat 64))) := rfl
theorem tw_add (a b : Int) : twoV [43] a b = some (w64 (a + b)) := rfl
theorem tw_sub (a b : Int) : twoV [45] a b = some (w64 (a - b)) := rfl
theorem tw_mul (a b : Int) : twoV [42] a b = some (w64 (a * b)) := rfl
theorem tw_div (a b : Int) : twoV [47] a b = if b = 0 then none else some (w64 (a.tdiv b)) := rfl
theorem tw_mod (a b : Int) : twoV [37] a b = if b = 0 then none else some (a.tmod b) := rfl
theorem ev_two {l : List VarS} {s : Bytes} {a b : T} {st st1 st2 : List VarS} {x y z : Int} (h1 : (s == [124,124] || s == [38,38]) = false) (ha : ev l a st = .ok (x, st1)) (hb : ev l b st1 = .ok (y, st2)) (hz : twoV s x y = some z) : ev l (.two s a b) st = .ok (z, st2) := by
  simp only [Bool.or_eq_false_iff, beq_eq_false_iff_ne] at h1
  unfold ev
  rw [ha]
  simp only [bindE]
  rw [if_neg h1.1, if_neg h1.2, hb]
  simp only [bindE]
  rw [hz]; rfl
theorem ev_two_bad {l : List VarS} {s : Bytes} {a b : T} {st st1 st2 : List VarS} {x y : Int} (h1 : (s == [124,124] || s == [38,38]) = false) (ha : ev l a st = .ok (x, st1)) (hb : ev l b st1 = .ok (y, st2)) (hz : twoV s x y = none) : ev l (.two s a b) st = .error 22 := by
  simp only [Bool.or_eq_false_iff, beq_eq_false_iff_ne] at h1
  unfold ev
  rw [ha]
  simp only [bindE]
  rw [if_neg h1.1, if_neg h1.2, hb]
  simp only [bindE]
  rw [hz]; rfl
theorem ev_bad {l : List VarS} {s : Bytes} {a b : T} {st : List VarS} {e : Int} (ha : ev l a st = .error e) : ev l (.two s a b) st = .error e := by
  unfold ev
  rw [ha]; rfl
theorem ev_num (l : List VarS) (n : Int) (st : List VarS) : ev l (.num n) st = .ok (n, st) := rfl
theorem ev_name {l : List VarS} {x : Bytes} {st : List VarS} {n : Int} (h : numV (lookV l st x) = some n) : ev l (.name x) st = .ok (n, st) := by
  unfold ev
  rw [h]; rfl
theorem ev_un {l : List VarS} {s : Bytes} {a : T} {st st1 : List VarS} {x : Int} (ha : ev l a st = .ok (x, st1)) : ev l (.un s a) st = .ok (unV s x, st1) := by
  unfold ev
  rw [ha]; rfl
theorem valueS_bad {s : Bytes} {l : List VarS} {t : T} {e : Int} (h1 : s.length ≤ 256) (h2 : blank s ≠ []) (h3 : readS s = some t) (h4 : ev l t [] = .error e) : valueS s l = (0, [], e) := by
  unfold valueS
  rw [if_neg (by omega), if_neg h2, h3]
  dsimp only
  rw [h4]
/-- Two numbers, named. -/
def ab (k : UInt8) (a b : Int) : List VarS := [⟨[97], decI a⟩, ⟨[k], decI b⟩]
theorem look_a (k : UInt8) (a b : Int) : lookV (ab k a b) [] [97] = decI a := rfl
theorem look_b (k : UInt8) (hk : k ≠ 97) (a b : Int) : lookV (ab k a b) [] [k] = decI b := by
  have : ¬ ([97] : Bytes) = [k] := fun h => hk (by simpa using h.symm)
  simp [lookV, findV, ab, this]
theorem ev_a {k : UInt8} {a b : Int} (ha : IsI a) : ev (ab k a b) (.name [97]) [] = .ok (a, []) := ev_name (by rw [look_a, numV_dec ha])
theorem ev_b {k : UInt8} (hk : k ≠ 97) {a b : Int} (hb : IsI b) : ev (ab k a b) (.name [k]) [] = .ok (b, []) := ev_name (by rw [look_b k hk, numV_dec hb])
abbrev nA : T := .name [97]
abbrev nB : T := .name [98]
abbrev nK : T := .name [107]
theorem val_x1 {a b : Int} (ha : IsI a) (hb : IsI b) : valueS x1S (ab 98 a b) = (w64 (w64 (a + b) - w64 (w64 (a - b) * w64 (a * b))), [], 0) :=
  have eA := ev_a (k := 98) (b := b) ha
  have eB := ev_b (k := 98) (a := a) (by decide) hb
  valueS_of (by decide) (fun e => by cases e) (t := .two [45] (.two [43] nA nB) (.two [42] (.two [45] nA nB) (.two [42] nA nB))) (by decide +kernel)
    (ev_two rfl (ev_two rfl eA eB (tw_add _ _)) (ev_two rfl (ev_two rfl eA eB (tw_sub _ _)) (ev_two rfl eA eB (tw_mul _ _)) (tw_mul _ _)) (tw_sub _ _))
def wantS (a b : Int) : Int := if a = b then 38 else if a > b then 56 else 11
theorem val_x2 {a b : Int} (ha : IsI a) (hb : IsI b) : valueS x2S (ab 98 a b) = (wantS a b, [], 0) := by
  have eA := ev_a (k := 98) (b := b) ha
  have eB := ev_b (k := 98) (a := a) (by decide) hb
  refine valueS_of (by decide) (fun e => by cases e) (t := .two [43] (.two [43] (.two [43] (.two [43] (.two [43] (.two [60] nA nB) (.two [42] (.two [60,61] nA nB) (.num 2))) (.two [42] (.two [61,61] nA nB) (.num 4))) (.two [42] (.two [33,61] nA nB) (.num 8))) (.two [42] (.two [62] nA nB) (.num 16))) (.two [42] (.two [62,61] nA nB) (.num 32))) (by decide +kernel)
    (ev_two rfl (ev_two rfl (ev_two rfl (ev_two rfl (ev_two rfl (ev_two rfl eA eB (tw_lt _ _)) (ev_two rfl (ev_two rfl eA eB (tw_le _ _)) (ev_num _ _ _) (tw_mul _ _)) (tw_add _ _)) (ev_two rfl (ev_two rfl eA eB (tw_eq _ _)) (ev_num _ _ _) (tw_mul _ _)) (tw_add _ _)) (ev_two rfl (ev_two rfl eA eB (tw_ne _ _)) (ev_num _ _ _) (tw_mul _ _)) (tw_add _ _)) (ev_two rfl (ev_two rfl eA eB (tw_gt _ _)) (ev_num _ _ _) (tw_mul _ _)) (tw_add _ _)) (ev_two rfl (ev_two rfl eA eB (tw_ge _ _)) (ev_num _ _ _) (tw_mul _ _)) ?_)
  rw [tw_add]
  congr 1
  unfold wantS
  by_cases h1 : a = b
  · subst h1; simp [truthS]; decide
  · by_cases h2 : a > b
    · have h3 : ¬ a < b := by omega
      have h4 : ¬ a ≤ b := by omega
      have h5 : b ≤ a := by omega
      simp [truthS, h1, h2, h3, h4, h5]; decide
    · have h3 : a < b := by omega
      have h4 : a ≤ b := by omega
      have h5 : ¬ b ≤ a := by omega
      simp [truthS, h1, h2, h3, h4, h5]; decide
theorem ofInt_w64 (x : BitVec 64) : BitVec.ofInt 64 (w64 x.toNat) = x := by
  apply BitVec.eq_of_toNat_eq
  rw [BitVec.toNat_ofInt, w64_eq]
  have := x.isLt
  omega
theorem w64_ofInt {a : Int} (h : IsI a) : w64 ((BitVec.ofInt 64 a).toNat : Int) = a := by
  rw [BitVec.toNat_ofInt, w64_eq]
  unfold IsI at h
  omega
theorem ofInt_m1 : BitVec.ofInt 64 (-1) = BitVec.allOnes 64 := by decide
theorem val_x3 {a b : Int} (ha : IsI a) (hb : IsI b) : valueS x3S (ab 98 a b) = (xor64 (-1) a, [], 0) := by
  have eA := ev_a (k := 98) (b := b) ha
  have eB := ev_b (k := 98) (a := a) (by decide) hb
  refine valueS_of (by decide) (fun e => by cases e) (t := .two [94] (.two [94] (.two [94] (.two [94] (.two [38] nA nB) (.two [124] nA nB)) nA) nB) (.un [126] nA)) (by decide +kernel)
    (ev_two rfl (ev_two rfl (ev_two rfl (ev_two rfl (ev_two rfl eA eB (tw_and _ _)) (ev_two rfl eA eB (tw_or _ _)) (tw_xor _ _)) eA (tw_xor _ _)) eB (tw_xor _ _)) (ev_un eA) ?_)
  rw [tw_xor]
  congr 1
  show w64 (BitVec.toNat (BitVec.ofInt 64 (w64 (BitVec.toNat (BitVec.ofInt 64 (w64 (BitVec.toNat (BitVec.ofInt 64 (w64 (BitVec.toNat (BitVec.ofInt 64 (w64 _) ^^^ BitVec.ofInt 64 (w64 _)))) ^^^ BitVec.ofInt 64 a))) ^^^ BitVec.ofInt 64 b))) ^^^ BitVec.ofInt 64 (w64 (BitVec.toNat (BitVec.ofInt 64 (-1) ^^^ BitVec.ofInt 64 a))))) = w64 (BitVec.toNat (BitVec.ofInt 64 (-1) ^^^ BitVec.ofInt 64 a))
  simp only [ofInt_w64]
  rw [ofInt_m1]
  congr 2
  generalize BitVec.ofInt 64 a = x
  generalize BitVec.ofInt 64 b = y
  apply congrArg
  generalize BitVec.allOnes 64 ^^^ x = z
  ext i hi
  simp
  cases x[i] <;> cases y[i] <;> cases z[i] <;> rfl
theorem val_x4 (l : List VarS) : valueS x4S l = (0, [], 17) := by
  unfold valueS
  rw [if_neg (by decide), if_neg (fun e => by cases e), show readS x4S = none from by decide +kernel]
theorem val_x5 {a b : Int} (ha : IsI a) (hb : IsI b) : valueS x5S (ab 98 a b) = if b = 0 then (0, [], 22) else (a, [], 0) := by
  have eA := ev_a (k := 98) (b := b) ha
  have eB := ev_b (k := 98) (a := a) (by decide) hb
  have hr : readS x5S = some (.two [43] (.two [42] (.two [47] nA nB) nB) (.two [37] nA nB)) := by decide +kernel
  by_cases h : b = 0
  · rw [if_pos h]
    exact valueS_bad (by decide) (fun e => by cases e) hr (ev_bad (ev_bad (ev_two_bad rfl eA eB (by rw [tw_div, if_pos h]))))
  · rw [if_neg h]
    refine valueS_of (by decide) (fun e => by cases e) hr (ev_two rfl (ev_two rfl (ev_two rfl eA eB (by rw [tw_div, if_neg h])) eB (tw_mul _ _)) (ev_two rfl eA eB (by rw [tw_mod, if_neg h])) ?_)
    rw [tw_add]
    congr 1
    have e : b * a.tdiv b + a.tmod b = a := Int.mul_tdiv_add_tmod a b
    have e2 : w64 (w64 (w64 (a.tdiv b) * b) + a.tmod b) = w64 (b * a.tdiv b + a.tmod b) := by
      have h1 : (w64 (a.tdiv b) * b) % 18446744073709551616 = (b * a.tdiv b) % 18446744073709551616 := by
        rw [Int.mul_comm b, Int.mul_emod, Int.mul_emod (a.tdiv b)]
        congr 2
        rw [w64_eq]; omega
      generalize w64 (a.tdiv b) * b = u at *
      generalize b * a.tdiv b = v at *
      rw [w64_eq, w64_eq, w64_eq]; omega
    rw [e2, e, w64_in ha]
/-- Bits. -/
theorem val_b1 {a k : Int} (ha : IsI a) (hk : IsI k) : valueS b1S (ab 107 a k) = (w64 (a * 2 ^ (min (and64 k 63).toNat 64)), [], 0) :=
  valueS_of (by decide) (fun e => by cases e) (t := .two [60,60] nA nK) (by decide +kernel) (ev_two rfl (ev_a ha) (ev_b (by decide) hk) (tw_shl _ _))
theorem val_b2 {a k : Int} (ha : IsI a) (hk : IsI k) : valueS b2S (ab 107 a k) = (a.fdiv (2 ^ (min (and64 k 63).toNat 64)), [], 0) :=
  valueS_of (by decide) (fun e => by cases e) (t := .two [62,62] nA nK) (by decide +kernel) (ev_two rfl (ev_a ha) (ev_b (by decide) hk) (tw_shr _ _))
theorem and_self (a : Int) (ha : IsI a) : and64 a a = a := by
  show w64 (BitVec.toNat (BitVec.ofInt 64 a &&& BitVec.ofInt 64 a)) = a
  rw [BitVec.and_self, w64_ofInt ha]
theorem or_self (a : Int) (ha : IsI a) : or64 a a = a := by
  show w64 (BitVec.toNat (BitVec.ofInt 64 a ||| BitVec.ofInt 64 a)) = a
  rw [BitVec.or_self, w64_ofInt ha]
theorem xor_self (a : Int) : xor64 a a = 0 := by
  show w64 (BitVec.toNat (BitVec.ofInt 64 a ^^^ BitVec.ofInt 64 a)) = 0
  rw [BitVec.xor_self]; rfl
theorem not_val (a : Int) (ha : IsI a) : xor64 (-1) a = -1 - a := by
  show w64 (BitVec.toNat (BitVec.ofInt 64 (-1) ^^^ BitVec.ofInt 64 a)) = -1 - a
  rw [ofInt_m1]
  have e : BitVec.allOnes 64 ^^^ BitVec.ofInt 64 a = ~~~ (BitVec.ofInt 64 a) := BitVec.allOnes_xor
  rw [e, BitVec.toNat_not, BitVec.toNat_ofInt, w64_eq]
  unfold IsI at ha
  omega
theorem val_b3 {a k : Int} (ha : IsI a) : valueS b3S (ab 107 a k) = (-1, [], 0) := by
  have eA := ev_a (k := 107) (b := k) ha
  refine valueS_of (by decide) (fun e => by cases e) (t := .two [43] (.two [43] (.two [45] (.two [38] nA nA) (.two [124] nA nA)) (.two [94] nA nA)) (.two [43] (.un [126] nA) nA)) (by decide +kernel)
    (ev_two rfl (ev_two rfl (ev_two rfl (ev_two rfl eA eA (tw_and _ _)) (ev_two rfl eA eA (tw_or _ _)) (tw_sub _ _)) (ev_two rfl eA eA (tw_xor _ _)) (tw_add _ _)) (ev_two rfl (ev_un eA) eA (tw_add _ _)) ?_)
  rw [tw_add]
  congr 1
  show w64 (w64 (w64 (and64 a a - or64 a a) + xor64 a a) + w64 (xor64 (-1) a + a)) = -1
  rw [and_self a ha, or_self a ha, xor_self, not_val a ha]
  have e1 : a - a = 0 := by omega
  have e2 : -1 - a + a = -1 := by omega
  rw [e1, e2]; decide
/-- The head's four. -/
theorem val_h1 : valueS h1S [] = (7, [], 0) := by decide +kernel
theorem val_h2 : valueS h2S [⟨[97], [52,48]⟩] = (42, [⟨[97], [52,50]⟩], 0) := by decide +kernel
theorem val_h3 : valueS h3S [] = (0, [], 0) := by decide +kernel
theorem val_h4 : valueS h4S [] = (0, [], 22) := by decide +kernel
end Go.Proofs.YtpjjdaenckedbaaDoor
