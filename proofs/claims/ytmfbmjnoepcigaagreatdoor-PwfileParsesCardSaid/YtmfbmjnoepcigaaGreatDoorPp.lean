/- Paths as lists of bytes: what stands between the strokes. No program in sight. -/
import Derived.Lib.IndexLaws
import Derived.Lib.TrimByte
import Derived.Lib.LastIndexByte
import Derived.WalkKit
namespace Go.Proofs.YtmfbmjnoepcigaaGreatDoor.Pp

abbrev Bytes := List UInt8

def partsA : Bytes → Bytes → List Bytes
  | [], acc => if acc = [] then [] else [acc.reverse]
  | c :: l, acc => if c = 47 then (if acc = [] then partsA l [] else acc.reverse :: partsA l []) else partsA l (c :: acc)
/-- What stands between the strokes. -/
def parts (l : Bytes) : List Bytes := partsA l []

theorem partsA_run : ∀ (a r acc : Bytes), (47 : UInt8) ∉ a → partsA (a ++ r) acc = partsA r (a.reverse ++ acc)
  | [], _, _, _ => rfl
  | c :: a, r, acc, h => by
    have hc : c ≠ 47 := fun e => h (by simp [e])
    have ha : (47 : UInt8) ∉ a := fun e => h (by simp [e])
    simp only [List.cons_append, partsA, hc, if_false]
    rw [partsA_run a r (c :: acc) ha]
    simp
theorem parts_cut (a b : Bytes) (h : (47 : UInt8) ∉ a) : parts (a ++ 47 :: b) = (if a = [] then [] else [a]) ++ parts b := by
  unfold parts
  rw [partsA_run a _ [] h]
  by_cases e : a = [] <;> simp [partsA, e]
theorem parts_end (a : Bytes) (h : (47 : UInt8) ∉ a) : parts a = if a = [] then [] else [a] := by
  have := partsA_run a [] [] h
  rw [List.append_nil] at this
  unfold parts
  rw [this]
  by_cases e : a = [] <;> simp [partsA, e]
theorem parts_nil : parts [] = [] := rfl

/-- The index of a stroke cuts a text. -/
theorem stroke_at {l : Bytes} {i : Nat} (h : Lib.indexByte l 47 = i) : i < l.length ∧ (47 : UInt8) ∉ l.take i ∧ l = l.take i ++ 47 :: l.drop (i + 1) := by
  obtain ⟨h1, h2⟩ := Lib.indexByte_some h
  obtain ⟨hi, h3⟩ := List.getElem?_eq_some_iff.1 h1
  refine ⟨hi, fun hm => ?_, ?_⟩
  · obtain ⟨k, hk, he⟩ := List.getElem_of_mem hm
    rw [List.getElem_take] at he
    have hk' : k < i := by simp at hk; omega
    exact h2 k hk' (by rw [List.getElem?_eq_getElem (by omega), he])
  · conv => lhs; rw [← List.take_append_drop i l]
    rw [List.drop_eq_getElem_cons hi, h3]
theorem no_stroke {l : Bytes} (h : Lib.indexByte l 47 = -1) : (47 : UInt8) ∉ l := fun hm => by
  obtain ⟨k, hk, he⟩ := List.getElem_of_mem hm
  exact Lib.indexByte_none h k (by rw [List.getElem?_eq_getElem hk, he])

theorem ex_data (s : ByteArray) (a b : Nat) : (s.extract a b).data.toList = (s.data.toList.take b).drop a := by
  rw [ByteArray.data_extract, Array.toList_extract, List.extract_eq_take_drop, List.drop_take]
theorem sz (s : ByteArray) : s.data.toList.length = s.size := by simp
end Go.Proofs.YtmfbmjnoepcigaaGreatDoor.Pp
namespace Go.Proofs.YtmfbmjnoepcigaaGreatDoor.Pp
/-! ### Directory and last name -/
def IsTrim (s : ByteArray) (n : Nat) : Prop := n ≤ s.size ∧ (∀ j, n ≤ j → j < s.size → s.data[j]! = 47) ∧ (n = 0 ∨ s.data[n - 1]! ≠ 47)
def IsCut (s : ByteArray) (n i : Nat) : Prop := i ≤ n ∧ (∀ j, i ≤ j → j < n → s.data[j]! ≠ 47) ∧ (i = 0 ∨ s.data[i - 1]! = 47)
def bA (s : ByteArray) (n i : Nat) : ByteArray := if n = 0 then s else s.extract 0 i
def bB (s : ByteArray) (n i : Nat) : ByteArray := if n = 0 then ⟨#[]⟩ else s.extract i n

theorem trim_is (s : ByteArray) : ∃ n, IsTrim s n := by
  have h : ∀ k, k ≤ s.size → (∀ j, k ≤ j → j < s.size → s.data[j]! = 47) → ∃ n, IsTrim s n := by
    intro k
    induction k with
    | zero => exact fun h0 h1 => ⟨0, h0, h1, .inl rfl⟩
    | succ k ih =>
      intro h0 h1
      by_cases hc : s.data[k]! = 47
      · refine ih (by omega) (fun j hj hj2 => ?_)
        by_cases e : j = k
        · rw [e]; exact hc
        · exact h1 j (by omega) hj2
      · exact ⟨k + 1, h0, h1, .inr (by simpa using hc)⟩
  exact h s.size (Nat.le_refl _) (fun j h1 h2 => by omega)
theorem cut_is (s : ByteArray) (n : Nat) : ∃ i, IsCut s n i := by
  have h : ∀ k, k ≤ n → (∀ j, k ≤ j → j < n → s.data[j]! ≠ 47) → ∃ i, IsCut s n i := by
    intro k
    induction k with
    | zero => exact fun h0 h1 => ⟨0, h0, h1, .inl rfl⟩
    | succ k ih =>
      intro h0 h1
      by_cases hc : s.data[k]! = 47
      · exact ⟨k + 1, h0, h1, .inr (by simpa using hc)⟩
      · refine ih (by omega) (fun j hj hj2 => ?_)
        by_cases e : j = k
        · rw [e]; exact hc
        · exact h1 j (by omega) hj2
  exact h n (Nat.le_refl _) (fun j h1 h2 => by omega)

theorem data_get (s : ByteArray) (j : Nat) (h : j < s.size) : s.data[j]! = s[j] := by
  have h1 : j < s.data.size := h
  rw [getElem!_pos s.data j h1]; rfl
theorem toList_get (s : ByteArray) (j : Nat) (h : j < s.data.toList.length) : s.data.toList[j] = s.data[j]! := by
  have h1 : j < s.data.size := by simpa using h
  rw [getElem!_pos s.data j h1]; simp
theorem dropWhile_rev (p : UInt8 → Bool) : ∀ (n : Nat) (l : List UInt8), n ≤ l.length → (∀ j (h : j < l.length), n ≤ j → p l[j] = true) → (n = 0 ∨ ∃ h : n - 1 < l.length, p l[n - 1] = false) → (l.reverse.dropWhile p).reverse = l.take n := by
  intro n l hn h1 h2
  have hd : l = l.take n ++ l.drop n := (List.take_append_drop n l).symm
  have hall : ∀ x ∈ (l.drop n).reverse, p x = true := by
    intro x hx
    obtain ⟨k, hk, he⟩ := List.getElem_of_mem (List.mem_reverse.1 hx)
    rw [List.getElem_drop] at he
    rw [← he]; exact h1 _ _ (by omega)
  have hrev : l.reverse = (l.drop n).reverse ++ (l.take n).reverse := by
    conv => lhs; rw [hd]
    rw [List.reverse_append]
  rw [hrev, List.dropWhile_append_of_pos hall]
  rcases h2 with h0 | ⟨hb, hp⟩
  · subst h0; simp
  · by_cases h0 : n = 0
    · subst h0; simp
    have ht : (l.take n).reverse = l[n - 1] :: (l.take (n - 1)).reverse := by
      obtain ⟨m, rfl⟩ : ∃ m, n = m + 1 := ⟨n - 1, by omega⟩
      simp only [Nat.add_sub_cancel]
      rw [List.take_succ_eq_append_getElem (by omega)]
      simp
    rw [ht, List.dropWhile_cons_of_neg (by simp [hp]), ← ht, List.reverse_reverse]
theorem trim_eq (s : ByteArray) (n : Nat) (h : IsTrim s n) : (⟨(Lib.trimRightB s.data.toList 47).toArray⟩ : ByteArray) = s.extract 0 n := by
  obtain ⟨h1, h2, h3⟩ := h
  have e : Lib.trimRightB s.data.toList 47 = s.data.toList.take n := by
    refine dropWhile_rev _ n _ (by rw [sz]; exact h1) (fun j hj hn => ?_) ?_
    · rw [toList_get]; simp [h2 j hn (by simpa using hj)]
    · by_cases h0 : n = 0
      · exact .inl h0
      · refine .inr ⟨by simp; omega, ?_⟩
        rw [toList_get]
        rcases h3 with h3 | h3
        · exact absurd h3 h0
        · simpa using h3
  apply ByteArray.ext
  apply Array.ext'
  rw [e, ex_data]; simp
theorem ex_get (s : ByteArray) (n j : Nat) (h : j < n) (hn : n ≤ s.size) : (s.extract 0 n).data[j]! = s.data[j]! := by
  have h1 : j < (s.extract 0 n).data.toList.length := by simp [ByteArray.data_extract]; have : n ≤ s.data.size := hn; omega
  have h2 : j < s.data.toList.length := by have : n ≤ s.data.size := hn; simp; omega
  have h3 : (s.extract 0 n).data.toList = s.data.toList.take n := by rw [ex_data]; simp
  rw [← toList_get _ _ h1, ← toList_get _ _ h2]
  simp only [h3, List.getElem_take]
theorem last_eq (s : ByteArray) (n i : Nat) (hn : n ≤ s.size) (h : IsCut s n i) : Lib.lastIndexByte (s.extract 0 n) 47 = (i : Int) - 1 := by
  obtain ⟨h1, h2, h3⟩ := h
  have hsz : (s.extract 0 n).size = n := by simp [ByteArray.size_extract]; omega
  rcases Lib.lastIndexByte_spec (s.extract 0 n) 47 with ⟨e, hno⟩ | ⟨k, hk, e, hc, hlater⟩
  · rw [e]
    rcases h3 with h3 | h3
    · subst h3; rfl
    · by_cases h0 : i = 0
      · subst h0; rfl
      · exfalso
        refine hno (i - 1) (by omega) ?_
        rw [ex_get _ _ _ (by omega) hn, h3]; rfl
  · rw [e]
    rw [hsz] at hk hlater
    rw [ex_get _ _ _ hk hn] at hc
    have hc' : s.data[k]! = 47 := UInt8.toNat_inj.1 (by have : ((s.data[k]!).toNat : Int) = ((47 : UInt8).toNat : Int) := hc; omega)
    have : k < i := by
      rcases Nat.lt_or_ge k i with h | h
      · exact h
      · exact absurd hc' (h2 k h hk)
    rcases h3 with h3 | h3
    · omega
    · have : ¬ k < i - 1 := fun hlt => by
        have := hlater (i - 1) hlt (by omega)
        rw [ex_get _ _ _ (by omega) hn, h3] at this
        exact this rfl
      omega
end Go.Proofs.YtmfbmjnoepcigaaGreatDoor.Pp
namespace Go.Proofs.YtmfbmjnoepcigaaGreatDoor.Pp
def okb (c : UInt8) : Bool := decide (32 ≤ c.toNat) && decide (c.toNat ≠ 127)
/-- What Split tells of a text: from the root; a directory's; the names; the error. -/
def splitS (b : Bytes) : Bool × Bool × List Bytes × Int :=
  if b = [] then (false, false, [], 3)
  else if 128 < b.length ∨ ∃ x ∈ parts b, 14 < x.length then (false, false, [], 10)
  else if b.all okb = false then (false, false, [], 1)
  else (Lib.hasPrefix b [47], Lib.hasSuffix b [47] || (((parts b).getLast?.getD [] == [46]) || ((parts b).getLast?.getD [] == [46, 46])), (parts b).filter (fun x => decide (¬ x = [46])), 0)
end Go.Proofs.YtmfbmjnoepcigaaGreatDoor.Pp
