/- Plain laws of a change: what stands between the commas. -/
import Derived.Test.YtpoicdpfjmeehaaDoorG
import Derived.Test.YtpoicdpfjmeehaaDoorT
import Derived.Lib.SplitLaws
namespace Go.Proofs.YtpoicdpfjmeehaaDoor
open Go.RowKit

/-- A text cut at its commas, behind what was read of a piece. -/
def splitA (acc : Bytes) : Bytes → List Bytes
  | [] => [acc]
  | c :: l => if c = 44 then acc :: splitA [] l else splitA (acc ++ [c]) l
theorem splitA_acc : ∀ l : Bytes, ∃ h t, splitA [] l = h :: t ∧ ∀ acc, splitA acc l = (acc ++ h) :: t
  | [] => ⟨[], [], rfl, fun acc => by simp [splitA]⟩
  | c :: l => by
    by_cases hc : c = 44
    · exact ⟨[], splitA [] l, by simp [splitA, hc], fun acc => by simp [splitA, hc]⟩
    · obtain ⟨h, t, h1, h2⟩ := splitA_acc l
      refine ⟨c :: h, t, ?_, fun acc => ?_⟩
      · rw [splitA, if_neg hc, h2]; simp
      · rw [splitA, if_neg hc, h2]; simp
theorem splitK_A : ∀ l : Bytes, Lib.splitK [44] 0 (l.count 44) l = splitA [] l
  | [] => rfl
  | b :: l => by
    have ih := splitK_A l
    by_cases hb : b = 44
    · subst hb
      rw [List.count_cons_self, splitA, if_pos rfl, Lib.splitK]
      have hi : Lib.index (44 :: l) [44] = 0 := by rw [Lib.index]; simp [List.isPrefixOf]
      rw [hi, if_neg (by decide)]
      simp [ih]
    · rw [List.count_cons_of_ne (by simpa using hb), splitA, if_neg hb]
      obtain ⟨h, t, h1, h2⟩ := splitA_acc l
      rw [h2]
      have hp : ([44] : Bytes).isPrefixOf (b :: l) = false := by simp [List.isPrefixOf, Ne.symm hb]
      have hix : Lib.index (b :: l) [44] = if Lib.index l [44] == -1 then -1 else Lib.index l [44] + 1 := by rw [Lib.index, hp]; simp
      cases hk : l.count 44 with
      | zero =>
        rw [hk, h1] at ih
        simp only [Lib.splitK, List.cons.injEq] at ih ⊢
        obtain ⟨h3, h4⟩ := ih
        rw [← h3, ← h4]; simp
      | succ k =>
        rw [hk, h1] at ih
        have hne : ¬ Lib.index l [44] = -1 := fun h => by
          have := Lib.count_miss h
          rw [Lib.count_one, hk] at this
          omega
        have hge := Lib.index_ge l [44]
        obtain ⟨j, hj⟩ : ∃ j : Nat, Lib.index l [44] = j := ⟨(Lib.index l [44]).toNat, by omega⟩
        rw [hj] at hix hne
        rw [if_neg (by simp)] at hix
        rw [Lib.splitK, hj, if_neg (by simp)] at ih
        rw [Lib.splitK, hix, if_neg (by simp; omega)]
        have e1 : ((j : Int) + 1).toNat = j + 1 := by omega
        rw [e1]
        simp only [Int.toNat_natCast, Nat.add_zero, List.length_singleton] at ih ⊢
        simp only [List.cons.injEq] at ih
        obtain ⟨h3, h4⟩ := ih
        rw [List.take_succ_cons, h3, List.drop_succ_cons, h4]
        rfl
/-- Clauses, as bytes, one behind the other. -/
def chL (dir : Bool) : Nat → List Bytes → Option Nat
  | m, [] => some m
  | m, l :: r => match clauseS dir m l with
    | none => none
    | some m' => chL dir m' r
theorem chS_L (dir : Bool) : ∀ (L : List ByteArray) (m : Nat), chS dir m L = chL dir m (L.map (·.data.toList))
  | [], _ => rfl
  | x :: L, m => by
    rw [chS, List.map_cons, chL]
    cases clauseS dir m x.data.toList with
    | none => rfl
    | some m' => exact chS_L dir L m'
theorem chS_A (dir : Bool) (m : Nat) (s : ByteArray) : chS dir m (Lib.splitB ⟨#[44]⟩ 0 (Lib.countB s ⟨#[44]⟩) s) = chL dir m (splitA [] s.data.toList) := by
  rw [chS_L, Lib.splitB_data, ← splitK_A]
  have h : Lib.countB s ⟨#[44]⟩ = s.data.toList.count 44 := Lib.count_one 44 s.data.toList
  rw [h]

/-- Those who are named, as the document keeps them: 4 u, 2 g, 1 o. -/
def wb (n : Nat) (c : UInt8) : Nat := if c = 117 then n ||| 4 else if c = 103 then n ||| 2 else if c = 111 then n ||| 1 else if c = 97 then n ||| 7 else n
def wr3 (n : Nat) : Nat := (if n &&& 4 = 0 then 0 else 448) ||| (if n &&& 2 = 0 then 0 else 56) ||| (if n &&& 1 = 0 then 0 else 7)
def ws3 (n : Nat) : Nat := if n &&& 4 = 0 then 0 else 2048
def wt3 (n : Nat) : Nat := if n &&& 1 = 0 then 0 else 512
theorem wb_lt : ∀ n : Fin 8, ∀ c : Fin 4, wb n.val ([117, 103, 111, 97][c.val]) < 8 ∧ wb n.val ([117, 103, 111, 97][c.val]) ≠ 0 ∧
    wstep (wr3 n.val, ws3 n.val, wt3 n.val) ([117, 103, 111, 97][c.val]) = (wr3 (wb n.val ([117, 103, 111, 97][c.val])), ws3 (wb n.val ([117, 103, 111, 97][c.val])), wt3 (wb n.val ([117, 103, 111, 97][c.val]))) := by decide +kernel
theorem isWho_cases {c : UInt8} (h : isWho c = true) : c = 117 ∨ c = 103 ∨ c = 111 ∨ c = 97 := by unfold isWho at h; simpa [or_assoc] using h
theorem wb_step {n : Nat} {c : UInt8} (hn : n < 8) (h : isWho c = true) : wb n c < 8 ∧ wb n c ≠ 0 ∧ wstep (wr3 n, ws3 n, wt3 n) c = (wr3 (wb n c), ws3 (wb n c), wt3 (wb n c)) := by
  rcases isWho_cases h with rfl | rfl | rfl | rfl
  · exact wb_lt ⟨n, hn⟩ 0
  · exact wb_lt ⟨n, hn⟩ 1
  · exact wb_lt ⟨n, hn⟩ 2
  · exact wb_lt ⟨n, hn⟩ 3
theorem wb_fold : ∀ (l : Bytes) (n : Nat), n < 8 → l.all isWho = true → l.foldl wb n < 8 ∧ l.foldl wstep (wr3 n, ws3 n, wt3 n) = (wr3 (l.foldl wb n), ws3 (l.foldl wb n), wt3 (l.foldl wb n)) ∧ (l.foldl wb n = 0 → n = 0 ∧ l = [])
  | [], n, hn, _ => ⟨hn, rfl, fun h => ⟨h, rfl⟩⟩
  | c :: l, n, hn, h => by
    rw [List.all_cons, Bool.and_eq_true] at h
    obtain ⟨h1, h2, h3⟩ := wb_step hn h.1
    obtain ⟨i1, i2, i3⟩ := wb_fold l (wb n c) h1 h.2
    refine ⟨i1, ?_, fun e => absurd (i3 e).1 h2⟩
    rw [List.foldl_cons, h3, i2]; rfl
/-- The number of those who are named. -/
def whoN (l : Bytes) : Nat := if (namesS l).foldl wb 0 = 0 then 7 else (namesS l).foldl wb 0
theorem whoN_S (l : Bytes) : whoS l = (wr3 (whoN l), ws3 (whoN l), wt3 (whoN l)) ∧ whoN l < 8 ∧ whoN l ≠ 0 := by
  obtain ⟨i1, i2, i3⟩ := wb_fold (namesS l) 0 (by decide) (all_take l)
  unfold whoS whoN
  by_cases h : namesS l = []
  · rw [if_pos h, h]; decide
  · have h0 : ¬ (namesS l).foldl wb 0 = 0 := fun e => h (i3 e).2
    rw [if_neg h, if_neg h0]
    exact ⟨i2, i1, h0⟩
/-- The bits of one letter. -/
theorem bstep_or (m : Nat) (dir : Bool) (r s t b : Nat) (c : UInt8) : bstep m dir r s t b c = b ||| bstep m dir r s t 0 c := by
  unfold bstep
  repeat' split
  all_goals simp
theorem rmask_eq : ∀ wn : Fin 8, rmask 4 wn.val 3 = wr3 wn.val &&& 292 ∧ rmask 2 wn.val 3 = wr3 wn.val &&& 146 ∧ rmask 1 wn.val 3 = wr3 wn.val &&& 73 ∧ rmask 0 wn.val 3 = 0 ∧
    (rmask 7 wn.val 3 ||| ws3 wn.val) ||| wt3 wn.val = (wr3 wn.val ||| ws3 wn.val) ||| wt3 wn.val := by decide +kernel
theorem wr3_lt : ∀ wn : Fin 8, wr3 wn.val < 512 ∧ ws3 wn.val < 4096 ∧ wt3 wn.val < 4096 := by decide +kernel
end Go.Proofs.YtpoicdpfjmeehaaDoor
