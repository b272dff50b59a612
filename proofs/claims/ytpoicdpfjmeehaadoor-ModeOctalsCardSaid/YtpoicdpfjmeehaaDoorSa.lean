/- ModeSets: what three clauses make. -/
import Derived.Test.YtpoicdpfjmeehaaDoorZ
import Derived.Test.YtpoicdpfjmeehaaDoorK
namespace Go.Proofs.YtpoicdpfjmeehaaDoor
open Go.RowKit

/-- The letters of three rights. -/
def letS (r : Nat) : Bytes := (if r &&& 4 = 0 then [] else [114]) ++ ((if r &&& 2 = 0 then [] else [119]) ++ (if r &&& 1 = 0 then [] else [120]))
theorem letS_44 : ∀ r : Fin 8, (letS r.val).contains 44 = false ∧ (letS r.val).length ≤ 3 := by decide +kernel
theorem splitA_no : ∀ (l acc : Bytes), l.contains 44 = false → splitA acc l = [acc ++ l]
  | [], acc, _ => by simp [splitA]
  | c :: l, acc, h => by
    have hc : ¬ c = 44 := fun e => by subst e; simp at h
    have hl : l.contains 44 = false := by
      rw [List.contains_cons] at h
      simpa using (Bool.or_eq_false_iff.1 h).2
    rw [splitA, if_neg hc, splitA_no l _ hl]
    simp
theorem splitA_at : ∀ (l acc r : Bytes), l.contains 44 = false → splitA acc (l ++ 44 :: r) = (acc ++ l) :: splitA [] r
  | [], acc, r, _ => by simp [splitA]
  | c :: l, acc, r, h => by
    have hc : ¬ c = 44 := fun e => by subst e; simp at h
    have hl : l.contains 44 = false := by
      rw [List.contains_cons] at h
      simpa using (Bool.or_eq_false_iff.1 h).2
    show splitA acc (c :: (l ++ 44 :: r)) = _
    rw [splitA, if_neg hc, splitA_at l _ r hl]
    simp
theorem cl_u_set (m : Nat) (dir : Bool) : ∀ r : Nat, r < 8 → clauseS dir m (117 :: 61 :: letS r) = some ((m &&& (full - 2496)) ||| 64 * r)
  | 0, _ => by kernel_rfl
  | 1, _ => by kernel_rfl
  | 2, _ => by kernel_rfl
  | 3, _ => by kernel_rfl
  | 4, _ => by kernel_rfl
  | 5, _ => by kernel_rfl
  | 6, _ => by kernel_rfl
  | 7, _ => by kernel_rfl
theorem cl_g_set (m : Nat) (dir : Bool) : ∀ r : Nat, r < 8 → clauseS dir m (103 :: 61 :: letS r) = some ((m &&& (full - 56)) ||| 8 * r)
  | 0, _ => by kernel_rfl
  | 1, _ => by kernel_rfl
  | 2, _ => by kernel_rfl
  | 3, _ => by kernel_rfl
  | 4, _ => by kernel_rfl
  | 5, _ => by kernel_rfl
  | 6, _ => by kernel_rfl
  | 7, _ => by kernel_rfl
theorem cl_o_set (m : Nat) (dir : Bool) : ∀ r : Nat, r < 8 → clauseS dir m (111 :: 61 :: letS r) = some ((m &&& (full - 519)) ||| r)
  | 0, _ => by kernel_rfl
  | 1, _ => by kernel_rfl
  | 2, _ => by kernel_rfl
  | 3, _ => by kernel_rfl
  | 4, _ => by kernel_rfl
  | 5, _ => by kernel_rfl
  | 6, _ => by kernel_rfl
  | 7, _ => by kernel_rfl
theorem cl_u_add (m : Nat) (dir : Bool) : ∀ r : Nat, r < 8 → clauseS dir m (117 :: 43 :: letS r) = some (m ||| 64 * r)
  | 0, _ => by kernel_rfl
  | 1, _ => by kernel_rfl
  | 2, _ => by kernel_rfl
  | 3, _ => by kernel_rfl
  | 4, _ => by kernel_rfl
  | 5, _ => by kernel_rfl
  | 6, _ => by kernel_rfl
  | 7, _ => by kernel_rfl
theorem cl_g_add (m : Nat) (dir : Bool) : ∀ r : Nat, r < 8 → clauseS dir m (103 :: 43 :: letS r) = some (m ||| 8 * r)
  | 0, _ => by kernel_rfl
  | 1, _ => by kernel_rfl
  | 2, _ => by kernel_rfl
  | 3, _ => by kernel_rfl
  | 4, _ => by kernel_rfl
  | 5, _ => by kernel_rfl
  | 6, _ => by kernel_rfl
  | 7, _ => by kernel_rfl
theorem cl_o_add (m : Nat) (dir : Bool) : ∀ r : Nat, r < 8 → clauseS dir m (111 :: 43 :: letS r) = some (m ||| r)
  | 0, _ => by kernel_rfl
  | 1, _ => by kernel_rfl
  | 2, _ => by kernel_rfl
  | 3, _ => by kernel_rfl
  | 4, _ => by kernel_rfl
  | 5, _ => by kernel_rfl
  | 6, _ => by kernel_rfl
  | 7, _ => by kernel_rfl
theorem cl_u_sub (m : Nat) (dir : Bool) : ∀ r : Nat, r < 8 → clauseS dir m (117 :: 45 :: letS r) = some (m &&& (full - 64 * r))
  | 0, _ => by kernel_rfl
  | 1, _ => by kernel_rfl
  | 2, _ => by kernel_rfl
  | 3, _ => by kernel_rfl
  | 4, _ => by kernel_rfl
  | 5, _ => by kernel_rfl
  | 6, _ => by kernel_rfl
  | 7, _ => by kernel_rfl
theorem cl_g_sub (m : Nat) (dir : Bool) : ∀ r : Nat, r < 8 → clauseS dir m (103 :: 45 :: letS r) = some (m &&& (full - 8 * r))
  | 0, _ => by kernel_rfl
  | 1, _ => by kernel_rfl
  | 2, _ => by kernel_rfl
  | 3, _ => by kernel_rfl
  | 4, _ => by kernel_rfl
  | 5, _ => by kernel_rfl
  | 6, _ => by kernel_rfl
  | 7, _ => by kernel_rfl
theorem cl_o_sub (m : Nat) (dir : Bool) : ∀ r : Nat, r < 8 → clauseS dir m (111 :: 45 :: letS r) = some (m &&& (full - r))
  | 0, _ => by kernel_rfl
  | 1, _ => by kernel_rfl
  | 2, _ => by kernel_rfl
  | 3, _ => by kernel_rfl
  | 4, _ => by kernel_rfl
  | 5, _ => by kernel_rfl
  | 6, _ => by kernel_rfl
  | 7, _ => by kernel_rfl
theorem mask_or : ∀ r : Fin 512, 64 * (r.val / 64 &&& 7) ||| (8 * (r.val / 8 &&& 7) ||| (r.val &&& 7)) = r.val := by decide +kernel
theorem mask_sub : ∀ r : Fin 512, ((full - 64 * (r.val / 64 &&& 7)) &&& ((full - 8 * (r.val / 8 &&& 7)) &&& (full - (r.val &&& 7)))) = full - r.val := by decide +kernel
theorem mask_set : ∀ r : Fin 512, ((((64 * (r.val / 64 &&& 7)) &&& (full - 56)) ||| (8 * (r.val / 8 &&& 7))) &&& (full - 519)) ||| (r.val &&& 7) = r.val := by decide +kernel
theorem set_three {m r : Nat} (hr : r < 512) (hm : m &&& 3071 = m) (hm2 : m < big) :
    ((((m &&& (full - 2496)) ||| 64 * (r / 64 &&& 7)) &&& (full - 56)) ||| 8 * (r / 8 &&& 7)) &&& (full - 519) ||| (r &&& 7) = r := by
  have h0 : (m &&& (full - 2496)) &&& ((full - 56) &&& (full - 519)) = 0 := by
    rw [Nat.and_assoc]
    exact (andNot_zero (b := 3071) hm2 (by decide)).2 hm
  have h1 := mask_set ⟨r, hr⟩
  simp only at h1
  rw [Nat.and_or_distrib_right, Nat.and_or_distrib_right, Nat.and_or_distrib_right, Nat.and_assoc (m &&& (full - 2496)), h0, Nat.zero_or, ← Nat.and_or_distrib_right]
  exact h1
/-- The text of three clauses by one sign. -/
def threeS (c : UInt8) (r : Nat) : Bytes := (117 :: c :: letS (r / 64 &&& 7)) ++ 44 :: ((103 :: c :: letS (r / 8 &&& 7)) ++ 44 :: (111 :: c :: letS (r &&& 7)))
theorem and7 (x : Nat) : x &&& 7 < 8 := Nat.lt_of_le_of_lt Nat.and_le_right (by decide)
theorem three_split (c : UInt8) (hc : ¬ c = 44) (r : Nat) : splitA [] (threeS c r) = [117 :: c :: letS (r / 64 &&& 7), 103 :: c :: letS (r / 8 &&& 7), 111 :: c :: letS (r &&& 7)] := by
  have h : ∀ (x : UInt8) (n : Nat), n < 8 → ¬ x = 44 → (x :: c :: letS n).contains 44 = false := fun x n hn hx => by
    rw [List.contains_cons, List.contains_cons, (letS_44 ⟨n, hn⟩).1]
    simp [Ne.symm hc, Ne.symm hx]
  unfold threeS
  rw [splitA_at _ _ _ (h 117 _ (and7 _) (by decide)), splitA_at _ _ _ (h 103 _ (and7 _) (by decide)), splitA_no _ _ (h 111 _ (and7 _) (by decide))]
  rfl
theorem three_oct (c : UInt8) (r : Nat) : octS (threeS c r) = none := by
  unfold octS threeS
  rw [if_neg]
  rintro ⟨_, _, h, _⟩
  simp [isOct] at h
theorem three_len (c : UInt8) (r : Nat) : (threeS c r).length ≤ 17 := by
  have h1 := (letS_44 ⟨r / 64 &&& 7, and7 _⟩).2
  have h2 := (letS_44 ⟨r / 8 &&& 7, and7 _⟩).2
  have h3 := (letS_44 ⟨r &&& 7, and7 _⟩).2
  unfold threeS
  simp only [List.length_append, List.length_cons] at *
  omega
theorem three_set (dir : Bool) {m r : Nat} (hr : r < 512) (hm : m &&& 3071 = m) (hm2 : m < big) : changeS dir m (threeS 61 r) = some r := by
  unfold changeS
  rw [three_oct, three_split 61 (by decide)]
  simp only [chL, cl_u_set _ _ _ (and7 _), cl_g_set _ _ _ (and7 _), cl_o_set _ _ _ (and7 _)]
  rw [set_three hr hm hm2]
theorem three_add (dir : Bool) {m r : Nat} (hr : r < 512) : changeS dir m (threeS 43 r) = some (m ||| r) := by
  have h1 := mask_or ⟨r, hr⟩
  simp only at h1
  unfold changeS
  rw [three_oct, three_split 43 (by decide)]
  simp only [chL, cl_u_add _ _ _ (and7 _), cl_g_add _ _ _ (and7 _), cl_o_add _ _ _ (and7 _)]
  rw [Nat.or_assoc, Nat.or_assoc, h1]
theorem three_sub (dir : Bool) {m r : Nat} (hr : r < 512) : changeS dir m (threeS 45 r) = some (m &&& (full - r)) := by
  have h1 := mask_sub ⟨r, hr⟩
  simp only at h1
  unfold changeS
  rw [three_oct, three_split 45 (by decide)]
  simp only [chL, cl_u_sub _ _ _ (and7 _), cl_g_sub _ _ _ (and7 _), cl_o_sub _ _ _ (and7 _)]
  rw [Nat.and_assoc, Nat.and_assoc, h1]
end Go.Proofs.YtpoicdpfjmeehaaDoor
