/- Digits of a number, read back. -/
import Derived.Test.YthomdgejbkcljaaDoorPlain
namespace Go.Proofs.YthomdgejbkcljaaDoor
open Go.RowKit

def dch (d : Nat) : UInt8 := UInt8.ofNat (48 + d)
theorem dch_nat {d : Nat} (h : d < 10) : (dch d).toNat = 48 + d := by unfold dch; rw [UInt8.toNat_ofNat']; omega
/-- The digits of a number, to base ten. -/
def decD (u : Nat) : Bytes := if h : u ≤ 9 then [dch u] else decD (u / 10) ++ [dch (u % 10)]
theorem decD_le {u : Nat} (h : u ≤ 9) : decD u = [dch u] := by rw [decD, dif_pos h]
theorem decD_gt {u : Nat} (h : ¬ u ≤ 9) : decD u = decD (u / 10) ++ [dch (u % 10)] := by rw [decD, dif_neg h]
theorem isDig_dch {d : Nat} (h : d < 10) : isDig (dch d) = true := by
  have := dch_nat h
  unfold isDig; simp; omega
theorem decD_facts : ∀ (k u : Nat), u < 10 ^ (k + 1) → (decD u).all isDig = true ∧ (decD u).length ≤ k + 1 ∧ 0 < (decD u).length ∧ readD (decD u) = u
  | 0, u, h => by
    have h9 : u ≤ 9 := by omega
    rw [decD_le h9]
    refine ⟨by simp [isDig_dch (show u < 10 by omega)], by simp, by simp, ?_⟩
    simp [readD, dstep, dch_nat (show u < 10 by omega)]
  | k + 1, u, h => by
    by_cases h9 : u ≤ 9
    · rw [decD_le h9]
      refine ⟨by simp [isDig_dch (show u < 10 by omega)], by simp, by simp, ?_⟩
      simp [readD, dstep, dch_nat (show u < 10 by omega)]
    · rw [decD_gt h9]
      obtain ⟨i1, i2, i3, i4⟩ := decD_facts k (u / 10) (by rw [Nat.pow_succ] at h; omega)
      have hm : u % 10 < 10 := Nat.mod_lt _ (by decide)
      refine ⟨by simp only [List.all_append, i1, List.all_cons, isDig_dch hm]; rfl, by simp; omega, by simp, ?_⟩
      unfold readD at i4 ⊢
      rw [List.foldl_append, i4]
      simp only [List.foldl_cons, List.foldl_nil, dstep, dch_nat hm]
      omega
def decS (a : Int) : Bytes := if a < 0 then 45 :: decD a.natAbs else decD a.natAbs
theorem decD_head (u : Nat) (h : u < 10 ^ 18) : ∃ c r, decD u = c :: r ∧ ¬ c = 45 := by
  obtain ⟨i1, _, i3, _⟩ := decD_facts 17 u h
  cases hd : decD u with
  | nil => rw [hd] at i3; simp at i3
  | cons c r =>
    refine ⟨c, r, rfl, fun e => ?_⟩
    subst e
    rw [hd] at i1
    simp [isDig] at i1
theorem num_dec (a : Int) (h : a.natAbs < 10 ^ 18) : numS (decS a) = some a := by
  obtain ⟨i1, i2, i3, i4⟩ := decD_facts 17 a.natAbs h
  obtain ⟨c, r, hd, hc⟩ := decD_head a.natAbs h
  have hne : decD a.natAbs ≠ [] := by rw [hd]; simp
  unfold decS
  by_cases hn : a < 0
  · rw [if_pos hn]
    have e1 : digitsOf (45 :: decD a.natAbs) = decD a.natAbs := rfl
    have e2 : negOf (45 :: decD a.natAbs) = true := rfl
    unfold numS
    rw [e1, e2, if_pos ⟨hne, i2, i1⟩, i4, if_pos rfl]
    congr 1
    omega
  · rw [if_neg hn]
    have e1 : digitsOf (decD a.natAbs) = decD a.natAbs := by rw [hd]; unfold digitsOf; simp only [if_neg hc]
    have e2 : negOf (decD a.natAbs) = false := by rw [hd]; unfold negOf; simpa using hc
    unfold numS
    rw [e1, e2, if_pos ⟨hne, i2, i1⟩, i4]
    simp
    omega
end Go.Proofs.YthomdgejbkcljaaDoor
