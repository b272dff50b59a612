/- Numbers in hexadecimal digits, and a password's field. No program in sight. -/
import Derived.WalkKit
namespace Go.Proofs.YtmfbmjnoepcigaaGreatDoor.Mx

abbrev Bytes := List UInt8

/-- The byte of a digit. -/
def dig (n : Nat) : UInt8 := UInt8.ofNat (if n < 10 then 48 + n else 87 + n)
/-- A number's digits, as many as it has. -/
def hexD (n : Nat) : Bytes := if n < 16 then [dig n] else hexD (n / 16) ++ [dig (n % 16)]
termination_by n
decreasing_by omega
/-- So many digits of a number. -/
def hexN : Nat → Nat → Bytes
  | 0, _ => []
  | k + 1, n => hexN k (n / 16) ++ [dig (n % 16)]
/-- A byte is a digit. -/
def isHex (c : UInt8) : Bool := (decide (48 ≤ c.toNat) && decide (c.toNat ≤ 57)) || (decide (97 ≤ c.toNat) && decide (c.toNat ≤ 102))
/-- A digit's number. -/
def val (c : UInt8) : Nat := if c.toNat ≤ 57 then c.toNat - 48 else c.toNat - 87
def readN (l : Bytes) : Nat := l.foldl (fun a c => 16 * a + val c) 0

theorem dig_toNat {n : Nat} (h : n < 16) : (dig n).toNat = if n < 10 then 48 + n else 87 + n := by
  unfold dig
  rw [UInt8.toNat_ofNat']
  split <;> omega
theorem dig_hex {n : Nat} (h : n < 16) : isHex (dig n) = true := by
  unfold isHex
  rw [dig_toNat h]
  split <;> simp <;> omega
theorem dig_val {n : Nat} (h : n < 16) : val (dig n) = n := by
  unfold val
  rw [dig_toNat h]
  split <;> split <;> omega
theorem val_lt {c : UInt8} (h : isHex c = true) : val c < 16 := by
  unfold isHex at h; unfold val
  simp at h
  split <;> omega
theorem val_dig {c : UInt8} (h : isHex c = true) : dig (val c) = c := by
  apply UInt8.toNat_inj.1
  rw [dig_toNat (val_lt h)]
  unfold isHex at h; unfold val
  simp at h
  split <;> split <;> omega

theorem hexN_len : ∀ k n, (hexN k n).length = k
  | 0, _ => rfl
  | k + 1, n => by simp [hexN, hexN_len k]
theorem hexN_zero : ∀ k, hexN k 0 = List.replicate k 48
  | 0 => rfl
  | k + 1 => by
    show hexN k (0 / 16) ++ [dig (0 % 16)] = _
    rw [Nat.zero_div, hexN_zero k, List.replicate_succ']
    rfl
theorem hexD_len_pos (n : Nat) : 0 < (hexD n).length := by
  unfold hexD
  split <;> simp
theorem hexD_pad : ∀ k n, 0 < k → n < 16 ^ k → (hexD n).length ≤ k ∧ List.replicate (k - (hexD n).length) 48 ++ hexD n = hexN k n
  | 0, _, h, _ => by omega
  | k + 1, n, _, h => by
    rw [hexD]
    by_cases h16 : n < 16
    · rw [if_pos h16]
      refine ⟨by simp, ?_⟩
      show _ = hexN k (n / 16) ++ [dig (n % 16)]
      rw [Nat.div_eq_of_lt h16, Nat.mod_eq_of_lt h16, hexN_zero]
      simp
    · rw [if_neg h16]
      have hk : 0 < k := by
        rcases Nat.eq_zero_or_pos k with rfl | h1
        · simp at h; omega
        · exact h1
      have h2 : n / 16 < 16 ^ k := by
        rw [Nat.div_lt_iff_lt_mul (by decide), ← Nat.pow_succ]; exact h
      obtain ⟨h3, h4⟩ := hexD_pad k (n / 16) hk h2
      refine ⟨by simp; omega, ?_⟩
      show _ = hexN k (n / 16) ++ [dig (n % 16)]
      rw [← h4, List.length_append, ← List.append_assoc]
      congr 2
      simp
theorem hexN_hex : ∀ k n, (hexN k n).all isHex = true
  | 0, _ => rfl
  | k + 1, n => by
    simp only [hexN, List.all_append, hexN_hex k, List.all_cons, dig_hex (Nat.mod_lt n (by decide : 0 < 16)), List.all_nil, Bool.and_self]
theorem readN_app (l : Bytes) (c : UInt8) : readN (l ++ [c]) = 16 * readN l + val c := by simp [readN, List.foldl_append]
theorem readN_hexN : ∀ k n, n < 16 ^ k → readN (hexN k n) = n
  | 0, n, h => by simp at h; subst h; rfl
  | k + 1, n, h => by
    have h2 : n / 16 < 16 ^ k := by
      rw [Nat.div_lt_iff_lt_mul (by decide), ← Nat.pow_succ]; exact h
    rw [hexN, readN_app, readN_hexN k _ h2, dig_val (Nat.mod_lt n (by decide))]
    omega
theorem rev_ind {P : Bytes → Prop} (h0 : P []) (h1 : ∀ l c, P l → P (l ++ [c])) (l : Bytes) : P l := by
  have h : ∀ r : Bytes, P r.reverse := by
    intro r
    induction r with
    | nil => exact h0
    | cons c r ih => rw [List.reverse_cons]; exact h1 _ _ ih
  have := h l.reverse
  rwa [List.reverse_reverse] at this
theorem readN_lt (l : Bytes) : l.all isHex = true → readN l < 16 ^ l.length := by
  refine rev_ind (P := fun l => l.all isHex = true → readN l < 16 ^ l.length) (fun _ => by decide) (fun l c ih h => ?_) l
  simp only [List.all_append, List.all_cons, List.all_nil, Bool.and_true, Bool.and_eq_true] at h
  have h1 := ih h.1
  have h2 := val_lt h.2
  rw [readN_app, List.length_append, List.length_singleton, Nat.pow_succ]
  omega
theorem hexN_readN (l : Bytes) : l.all isHex = true → hexN l.length (readN l) = l := by
  refine rev_ind (P := fun l => l.all isHex = true → hexN l.length (readN l) = l) (fun _ => rfl) (fun l c ih h => ?_) l
  simp only [List.all_append, List.all_cons, List.all_nil, Bool.and_true, Bool.and_eq_true] at h
  have h1 := ih h.1
  have h2 := val_lt h.2
  rw [readN_app, List.length_append, List.length_singleton, hexN, show (16 * readN l + val c) / 16 = readN l by omega, show (16 * readN l + val c) % 16 = val c by omega, h1, val_dig h.2]
theorem hexN_inj {k n m : Nat} (hn : n < 16 ^ k) (hm : m < 16 ^ k) (h : hexN k n = hexN k m) : n = m := by
  rw [← readN_hexN k n hn, h, readN_hexN k m hm]
theorem not_hex_dollar : isHex 36 = false := by decide

/-! ### A field -/
def fieldS (s m : Nat) : Bytes := hexN 4 s ++ 36 :: hexN 16 m
def isField (f : Bytes) : Prop := ∃ h t, f = h ++ 36 :: t ∧ h.length = 4 ∧ t.length = 16 ∧ h.all isHex = true ∧ t.all isHex = true
theorem fieldS_is (s m : Nat) : isField (fieldS s m) := ⟨_, _, rfl, hexN_len _ _, hexN_len _ _, hexN_hex _ _, hexN_hex _ _⟩
theorem fieldS_len (s m : Nat) : (fieldS s m).length = 21 := by simp [fieldS, hexN_len]
theorem fieldS_take (s m : Nat) : (fieldS s m).take 4 = hexN 4 s := by
  rw [fieldS, List.take_append_of_le_length (by rw [hexN_len]; omega), List.take_of_length_le (by rw [hexN_len]; omega)]
theorem fieldS_salt {s m : Nat} (hs : s < 65536) : readN ((fieldS s m).take 4) = s := by
  rw [fieldS_take, readN_hexN 4 s (by omega)]
theorem fieldS_inj {s m m' : Nat} (hm : m < 18446744073709551616) (hm' : m' < 18446744073709551616) : fieldS s m = fieldS s m' ↔ m = m' := by
  constructor
  · intro h
    have := List.append_cancel_left h
    simp only [List.cons.injEq, true_and] at this
    exact hexN_inj (k := 16) (by omega) (by omega) this
  · rintro rfl; rfl
end Go.Proofs.YtmfbmjnoepcigaaGreatDoor.Mx
