/- Numbers, as they are written and read back. No program in sight. -/
import Derived.Test.YtpjjdaenckedbaaDoorDer
import Derived.IntWalk
namespace Go.Proofs.YtpjjdaenckedbaaDoor
open Go.RowKit

def IsI (n : Int) : Prop := -9223372036854775808 ≤ n ∧ n ≤ 9223372036854775807
theorem w64_eq (n : Int) : w64 n = (n + 9223372036854775808) % 18446744073709551616 - 9223372036854775808 := IntKind.wrap_i64 n
theorem w64_in {n : Int} (h : IsI n) : w64 n = n := by
  rw [w64_eq]; unfold IsI at h; omega
theorem w64_is (n : Int) : IsI (w64 n) := by
  rw [w64_eq]; unfold IsI; omega
theorem toNat_dch (d : Nat) (h : d ≤ 9) : (dch d).toNat = 48 + d := by
  unfold dch; simp; omega
theorem isDig_dch (d : Nat) (h : d ≤ 9) : isDig (dch d) = true := by
  unfold isDig; rw [toNat_dch d h]; simp; omega
theorem digV_dch (d : Nat) (h : d ≤ 9) : digV (dch d) = d := by
  unfold digV; rw [toNat_dch d h, if_pos ⟨by omega, by omega⟩]; omega
theorem decN_lt {u : Nat} (h : u ≤ 9) : decN u = [dch u] := by rw [decN, dif_pos h]
theorem decN_ge {u : Nat} (h : ¬ u ≤ 9) : decN u = decN (u / 10) ++ [dch (u % 10)] := by rw [decN, dif_neg h]
theorem decN_ne (u : Nat) : decN u ≠ [] := by
  by_cases h : u ≤ 9
  · rw [decN_lt h]; simp
  · rw [decN_ge h]; simp
theorem decN_dig (u : Nat) : ∀ c ∈ decN u, isDig c = true := by
  induction u using Nat.strongRecOn with
  | ind u ih =>
    by_cases h : u ≤ 9
    · rw [decN_lt h]; intro c hc; simp at hc; subst hc; exact isDig_dch u h
    · rw [decN_ge h]; intro c hc
      rw [List.mem_append] at hc
      rcases hc with hc | hc
      · exact ih (u / 10) (by omega) c hc
      · simp at hc; subst hc; exact isDig_dch _ (by omega)
theorem decN_len {u k : Nat} (h : u < 10 ^ (k + 1)) : (decN u).length ≤ k + 1 := by
  induction k generalizing u with
  | zero => rw [decN_lt (by omega)]; simp
  | succ k ih =>
    by_cases h9 : u ≤ 9
    · rw [decN_lt h9]; simp
    · rw [decN_ge h9]
      have := ih (u := u / 10) (by rw [Nat.pow_succ] at h; omega)
      simp; omega
theorem foldN_dec (u : Nat) : ∀ rest, foldN 10 (decN u ++ rest) 0 = foldN 10 rest (u % 18446744073709551616) := by
  induction u using Nat.strongRecOn with
  | ind u ih =>
    intro rest
    by_cases h : u ≤ 9
    · rw [decN_lt h]
      show (if 10 ≤ digV (dch u) then none else foldN 10 rest ((0 * 10 + digV (dch u)) % _)) = _
      rw [digV_dch u h, if_neg (by omega)]
      congr 1; omega
    · rw [decN_ge h, List.append_assoc, ih (u / 10) (by omega)]
      show (if 10 ≤ digV (dch (u % 10)) then none else foldN 10 rest ((u / 10 % 18446744073709551616 * 10 + digV (dch (u % 10))) % _)) = _
      rw [digV_dch _ (by omega), if_neg (by omega)]
      congr 1; omega
/-- A number's first digit is no nought, but for nought's. -/
theorem decN_head {u : Nat} (h : 0 < u) : ∃ d l, decN u = dch d :: l ∧ 1 ≤ d ∧ d ≤ 9 := by
  induction u using Nat.strongRecOn with
  | ind u ih =>
    by_cases h9 : u ≤ 9
    · exact ⟨u, [], decN_lt h9, h, h9⟩
    · obtain ⟨d, l, e, h1, h2⟩ := ih (u / 10) (by omega) (by omega)
      exact ⟨d, l ++ [dch (u % 10)], by rw [decN_ge h9, e]; rfl, h1, h2⟩
theorem dch_ne (d : Nat) (h : d ≤ 9) (c : UInt8) (hc : c.toNat ≠ 48 + d) : (c == dch d) = false := by
  rw [beq_eq_false_iff_ne]
  intro e
  rw [e, toNat_dch d h] at hc
  exact hc rfl
theorem const_dec (u : Nat) : constantS (decN u) = some (w64 u) := by
  unfold constantS
  by_cases h0 : 0 < u
  · obtain ⟨d, l, e, h1, h2⟩ := decN_head h0
    have hb : constB (decN u) = (10, decN u) := by
      unfold constB headIs
      rw [e]
      have k1 : List.isPrefixOf [48,120] (dch d :: l) = false := by
        show ((48 : UInt8) == dch d && _) = false
        rw [dch_ne d h2 48 (by simp; omega)]; rfl
      have k2 : List.isPrefixOf [48,88] (dch d :: l) = false := by
        show ((48 : UInt8) == dch d && _) = false
        rw [dch_ne d h2 48 (by simp; omega)]; rfl
      have k3 : List.isPrefixOf [48] (dch d :: l) = false := by
        show ((48 : UInt8) == dch d && _) = false
        rw [dch_ne d h2 48 (by simp; omega)]; rfl
      rw [k1, k2, k3]; rfl
    rw [hb]
    dsimp only
    rw [if_neg (decN_ne u)]
    have := foldN_dec u []
    rw [List.append_nil] at this
    rw [this]
    simp only [foldN, Option.map_some]
    congr 1
    show w64 _ = w64 _
    rw [w64_eq, w64_eq]; omega
  · obtain rfl : u = 0 := by omega
    rw [decN_lt (by omega)]
    rfl
theorem headIs_45 (u : Nat) : headIs [45] (decN u) = false := by
  unfold headIs
  cases h : decN u with
  | nil => exact absurd h (decN_ne u)
  | cons c l =>
    have hc := decN_dig u c (by rw [h]; simp)
    show ((45 : UInt8) == c && _) = false
    have : ((45 : UInt8) == c) = false := by
      rw [beq_eq_false_iff_ne]
      rintro rfl
      revert hc; decide
    rw [this]; rfl
theorem numV_dec {n : Int} (h : IsI n) : numV (decI n) = some n := by
  unfold numV decI
  by_cases hn : n < 0
  · rw [if_pos hn, if_neg (by simp)]
    have e : headIs [45] (45 :: decN n.natAbs) = true := by unfold headIs; simp [List.isPrefixOf]
    rw [if_pos e]
    show (constantS (decN n.natAbs)).map _ = _
    rw [const_dec]
    simp only [Option.map_some]
    congr 1
    rw [w64_eq, w64_eq]; unfold IsI at h; omega
  · rw [if_neg hn, if_neg (decN_ne _), if_neg (by rw [headIs_45]; decide), const_dec]
    congr 1
    rw [w64_eq]; unfold IsI at h; omega
/-- Digits of a number, to some base, `k` of them. -/
def digL (b : Nat) (ch : Nat → UInt8) (n : Nat) : Nat → Bytes
  | 0 => []
  | k + 1 => ch (n / b ^ k % b) :: digL b ch n k
theorem digL_len (b : Nat) (ch : Nat → UInt8) (n : Nat) : ∀ k, (digL b ch n k).length = k
  | 0 => rfl
  | k + 1 => by simp [digL, digL_len b ch n k]
theorem foldN_digL (b : Nat) (ch : Nat → UInt8) (n : Nat) (hb : 0 < b) (hch : ∀ d, d < b → digV (ch d) = d) : ∀ k acc, foldN b (digL b ch n k) acc = some (if k = 0 then acc else (acc * b ^ k + n % b ^ k) % 18446744073709551616)
  | 0, acc => rfl
  | k + 1, acc => by
    have hd : n / b ^ k % b < b := Nat.mod_lt _ hb
    have e : n % b ^ (k + 1) = n % b ^ k + b ^ k * (n / b ^ k % b) := Nat.mod_pow_succ
    show (if b ≤ digV (ch (n / b ^ k % b)) then none else foldN b (digL b ch n k) ((acc * b + digV (ch (n / b ^ k % b))) % _)) = _
    rw [hch _ hd, if_neg (Nat.not_le.2 hd), foldN_digL b ch n hb hch k]
    congr 1
    rw [if_neg (Nat.succ_ne_zero k), e]
    generalize n / b ^ k % b = d at *
    by_cases hk : k = 0
    · subst hk
      rw [if_pos rfl]
      simp [Nat.mod_one]
    · rw [if_neg hk]
      have e2 : (acc * b + d) * b ^ k + n % b ^ k = acc * b ^ (k + 1) + (n % b ^ k + b ^ k * d) := by
        rw [Nat.pow_succ, Nat.add_mul, Nat.mul_assoc, Nat.mul_comm b (b ^ k), Nat.mul_comm d (b ^ k)]; omega
      rw [← e2, Nat.add_mod, Nat.mul_mod, Nat.mod_mod, ← Nat.mul_mod, ← Nat.add_mod]
def och (d : Nat) : UInt8 := dch d
def hexT : Bytes := [48,49,50,51,52,53,54,55,56,57,97,98,99,100,69,70]
def hch (d : Nat) : UInt8 := hexT.getD d 0
theorem digV_hch : ∀ d, d < 16 → digV (hch d) = d := by decide
def octS (n : Nat) : Bytes := digL 8 och n 22
def hexS (n : Nat) : Bytes := digL 16 hch n 16
theorem const_oct {n : Nat} (h : n < 9223372036854775808) : constantS (48 :: octS n) = some (n : Int) := by
  have hl := digL_len 8 och n 22
  have e : constB (48 :: octS n) = (8, 48 :: octS n) := by
    unfold constB headIs octS
    rw [show digL 8 och n 22 = och (n / 8 ^ 21 % 8) :: digL 8 och n 21 from rfl]
    have hd : n / 8 ^ 21 % 8 ≤ 9 := by omega
    have k1 : List.isPrefixOf [48,120] (48 :: och (n / 8 ^ 21 % 8) :: digL 8 och n 21) = false := by
      show ((48 : UInt8) == 48 && ((120 : UInt8) == dch _ && _)) = false
      rw [dch_ne _ hd 120 (by simp; omega)]; rfl
    have k2 : List.isPrefixOf [48,88] (48 :: och (n / 8 ^ 21 % 8) :: digL 8 och n 21) = false := by
      show ((48 : UInt8) == 48 && ((88 : UInt8) == dch _ && _)) = false
      rw [dch_ne _ hd 88 (by simp; omega)]; rfl
    rw [k1, k2]; rfl
  unfold constantS
  rw [e]
  dsimp only
  rw [if_neg (by simp)]
  show (if 8 ≤ digV 48 then none else foldN 8 (octS n) ((0 * 8 + digV 48) % 18446744073709551616)).map _ = _
  rw [if_neg (by decide), show (0 * 8 + digV 48) % 18446744073709551616 = 0 from by decide]
  unfold octS
  rw [foldN_digL 8 och n (by decide) (fun d h => digV_dch d (by omega)), if_neg (by decide)]
  simp only [Option.map_some]
  congr 1
  show w64 _ = _
  have e8 : (8 : Nat) ^ 22 = 73786976294838206464 := by decide
  rw [e8, w64_eq]; omega
theorem const_hex {n : Nat} (x : UInt8) (hx : x = 120 ∨ x = 88) (h : n < 9223372036854775808) : constantS (48 :: x :: hexS n) = some (n : Int) := by
  have e : constB (48 :: x :: hexS n) = (16, hexS n) := by
    rcases hx with rfl | rfl
    · unfold constB headIs
      rw [if_pos (by simp [List.isPrefixOf])]; rfl
    · unfold constB headIs
      rw [if_pos (by simp [List.isPrefixOf])]; rfl
  unfold constantS
  rw [e]
  dsimp only
  rw [if_neg (fun h => by have := digL_len 16 hch n 16; rw [show digL 16 hch n 16 = hexS n from rfl, h] at this; cases this)]
  unfold hexS
  rw [foldN_digL 16 hch n (by decide) digV_hch, if_neg (by decide)]
  simp only [Option.map_some]
  congr 1
  show w64 _ = _
  have e8 : (16 : Nat) ^ 16 = 18446744073709551616 := by decide
  rw [e8, w64_eq]; omega
theorem isW_dig {c : UInt8} (h : isDig c = true) : isW c = true := by unfold isW; rw [h]; simp
theorem isW_hch : ∀ d, d < 16 → isW (hch d) = true := by decide
theorem word_all {l : Bytes} (h : ∀ c ∈ l, isW c = true) {r : Bytes} (hr : word r = []) : word (l ++ r) = l := by
  induction l with
  | nil => exact hr
  | cons c l ih =>
    show (c :: (l ++ r)).takeWhile isW = _
    rw [List.takeWhile_cons_of_pos (h c (by simp))]
    congr 1
    exact ih (fun c hc => h c (by simp [hc]))
theorem digL_w (b : Nat) (ch : Nat → UInt8) (hb : 0 < b) (h : ∀ d, d < b → isW (ch d) = true) (n : Nat) : ∀ k, ∀ c ∈ digL b ch n k, isW c = true
  | 0, c, hc => by cases hc
  | k + 1, c, hc => by
    have hc : c = ch (n / b ^ k % b) ∨ c ∈ digL b ch n k := by simpa [digL] using hc
    rcases hc with rfl | hc
    · exact h _ (Nat.mod_lt _ hb)
    · exact digL_w b ch hb h n k c hc
theorem octS_w (n : Nat) : ∀ c ∈ octS n, isW c = true := digL_w 8 och (by decide) (fun d h => isW_dig (isDig_dch d (by omega))) n 22
theorem hexS_w (n : Nat) : ∀ c ∈ hexS n, isW c = true := digL_w 16 hch (by decide) isW_hch n 16
/-- No sign begins with a digit. -/
theorem sgn_dig {c : UInt8} (h : isDig c = true) (l : Bytes) : sgn (c :: l) = [] := by
  have hd : ∀ x : UInt8, isDig x = false → (x == c) = false := fun x hx => by
    rw [beq_eq_false_iff_ne]; rintro rfl; rw [h] at hx; cases hx
  have h1 : ∀ (ss : List Bytes), ss.all (fun s => match s with | [] => false | a :: _ => !isDig a) = true → sgnIn ss (c :: l) = [] := by
    intro ss
    induction ss with
    | nil => intro _; rfl
    | cons s ss ih =>
      intro hs
      rw [List.all_cons, Bool.and_eq_true] at hs
      cases s with
      | nil => exact absurd hs.1 (by decide)
      | cons a s =>
        have ha : isDig a = false := by simpa using hs.1
        show (if (a == c && s.isPrefixOf l) = true then _ else _) = _
        rw [hd a ha]
        exact ih hs.2
  exact h1 signsL (by decide)
theorem blank_dig {c : UInt8} (h : isDig c = true) (l : Bytes) : blank (c :: l) = c :: l := by
  have : ¬ isB c = true := by
    intro hb
    unfold isB at hb
    simp only [Bool.or_eq_true, beq_iff_eq] at hb
    rcases hb with (rfl | rfl) | rfl <;> revert h <;> decide
  exact List.dropWhile_cons_of_neg this
end Go.Proofs.YtpjjdaenckedbaaDoor
