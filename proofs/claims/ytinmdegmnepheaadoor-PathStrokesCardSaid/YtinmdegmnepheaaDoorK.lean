/- A name put behind a path: plain laws. -/
import Derived.Test.YtinmdegmnepheaaDoorH
import Derived.Test.YtinmdegmnepheaaDoorG
namespace Go.Proofs.YtinmdegmnepheaaDoor

theorem partsA_cut (b : Bytes) : ∀ (a acc : Bytes), partsA (a ++ 47 :: b) acc = partsA a acc ++ parts b
  | [], acc => by by_cases e : acc = [] <;> simp [partsA, e, parts]
  | c :: a, acc => by
    by_cases hc : c = 47
    · by_cases e : acc = []
      · simp only [List.cons_append, partsA, hc, e, if_true]; exact partsA_cut b a []
      · simp only [List.cons_append, partsA, hc, e, if_true, if_false, partsA_cut b a []]
    · simp only [List.cons_append, partsA, hc, if_false]; exact partsA_cut b a (c :: acc)
theorem parts_app (a b : Bytes) : parts (a ++ 47 :: b) = parts a ++ parts b := partsA_cut b a []

/-- What a text is of that is split well. -/
structure Good (b : Bytes) (abs : Bool) (l : List Bytes) : Prop where
  ne : ¬ b = []
  len : b.length ≤ 128
  short : ∀ x ∈ parts b, x.length ≤ 14
  ok : b.all okb = true
  pre : Lib.hasPrefix b [47] = abs
  names : (parts b).filter (fun x => decide (¬ x = [46])) = l
theorem good_of {b : Bytes} {abs dir : Bool} {l : List Bytes} (h : splitS b = (abs, dir, l, 0)) : Good b abs l := by
  unfold splitS at h
  split at h
  · simp at h
  rename_i h0
  split at h
  · simp at h
  rename_i h1
  split at h
  · simp at h
  rename_i h2
  simp only [Prod.mk.injEq] at h
  exact ⟨h0, by
    have : ¬ 128 < b.length := fun hh => h1 (.inl hh)
    omega, fun x hx => by
    have : ¬ 14 < x.length := fun hh => h1 (.inr ⟨x, hx, hh⟩)
    omega, by simpa using h2, h.1, h.2.2.1⟩
theorem Good.split {b : Bytes} {abs : Bool} {l : List Bytes} (h : Good b abs l) : ∃ dir, splitS b = (abs, dir, l, 0) ∧ dir = (Lib.hasSuffix b [47] || (((parts b).getLast?.getD [] == [46]) || ((parts b).getLast?.getD [] == [46, 46]))) :=
  ⟨_, by rw [splitS, if_neg h.ne, if_neg (by
    rintro (h1 | ⟨x, hx, h1⟩)
    · have := h.len; omega
    · have := h.short x hx; omega), if_neg (by rw [h.ok]; simp), h.pre, h.names], rfl⟩
theorem nm_parts {n : ByteArray} (hn : nameB n = true) : parts n.data.toList = [n.data.toList] := by
  obtain ⟨h0, _, _, _, _, hno⟩ := (nameB_iff n).1 hn
  rw [parts_end _ hno, if_neg h0]
/-- A piece put behind: strokes and dots, and a name. -/
theorem Good.add {b : Bytes} {abs : Bool} {l : List Bytes} (h : Good b abs l) {n : ByteArray} (hn : nameB n = true) {mid : Bytes} (hmid : parts (b ++ mid) = parts b ++ (parts mid)) (hm : (b ++ mid ++ n.data.toList).length ≤ 128)
    (hp : parts (b ++ mid ++ n.data.toList) = parts b ++ parts mid ++ [n.data.toList]) (hd : ∀ x ∈ parts mid, x = [46]) (hok : mid.all okb = true) : Good (b ++ mid ++ n.data.toList) abs (l ++ [n.data.toList]) := by
  obtain ⟨n0, n1, n2, n3, n4, n5⟩ := (nameB_iff n).1 hn
  refine ⟨by simp [h.ne], hm, ?_, ?_, ?_, ?_⟩
  · intro x hx
    rw [hp, List.mem_append, List.mem_append] at hx
    rcases hx with (hx | hx) | hx
    · exact h.short x hx
    · rw [hd x hx]; decide
    · obtain rfl := List.mem_singleton.1 hx; rw [sz]; exact n1
  · rw [List.all_append, List.all_append, h.ok, hok, ← plain_okb, n4]; rfl
  · rw [← h.pre]
    have h0 := h.ne
    cases b with
    | nil => exact absurd rfl h0
    | cons c t => simp [Lib.hasPrefix, List.isPrefixOf]
  · rw [hp, List.filter_append, List.filter_append, h.names]
    have : (parts mid).filter (fun x => decide (¬ x = [46])) = [] := by
      rw [List.filter_eq_nil_iff]; intro x hx; simp [hd x hx]
    rw [this]; simp [n2]
/-- Put together. -/
theorem join_list (d n : ByteArray) : ∃ pre, (joinB d n).data.toList = pre ++ n.data.toList ∧ parts pre = parts d.data.toList ∧ (¬ d.data.toList = [] → ∃ t, pre = t ++ [47] ∧ ∃ mid, pre = d.data.toList ++ mid ∧ (mid = [] ∨ mid = [47])) := by
  unfold joinB
  split
  · rename_i h
    refine ⟨d.data.toList, by rw [ByteArray.data_append, Array.toList_append], rfl, fun h0 => ?_⟩
    rcases h with h | h
    · exact absurd h h0
    · simp only [Lib.hasSuffix, List.isSuffixOf_iff_suffix] at h
      obtain ⟨t, ht⟩ := h
      exact ⟨t, ht.symm, [], by simp, .inl rfl⟩
  · refine ⟨d.data.toList ++ [47], by simp [ByteArray.data_append], ?_, fun _ => ⟨_, rfl, [47], rfl, .inr rfl⟩⟩
    rw [parts_app]; simp [parts_nil]
theorem join_good {d n : ByteArray} {abs : Bool} {l : List Bytes} (h : Good d.data.toList abs l) (hn : nameB n = true) (hj : (joinB d n).size ≤ 128) :
    splitS (joinB d n).data.toList = (abs, false, l ++ [n.data.toList], 0) := by
  obtain ⟨n0, n1, n2, n3, n4, n5⟩ := (nameB_iff n).1 hn
  obtain ⟨pre, hp, hpp, ht⟩ := join_list d n
  obtain ⟨t, ht, mid, hmid, hm⟩ := ht h.ne
  have e1 : parts (pre ++ n.data.toList) = parts d.data.toList ++ [n.data.toList] := by
    rw [ht, List.append_assoc, List.singleton_append, parts_app, nm_parts hn, ← hpp, ht, parts_app]; simp [parts_nil]
  have hg : Good (pre ++ n.data.toList) abs (l ++ [n.data.toList]) := by
    rw [hmid]
    refine h.add hn (by
      rcases hm with rfl | rfl
      · simp [parts_nil]
      · rw [parts_app]; rfl) (by rw [← hmid, ← hp, sz]; exact hj) (by
      rw [← hmid, e1]
      rcases hm with rfl | rfl <;> simp [parts, partsA]) (by
      rcases hm with rfl | rfl <;> simp [parts, partsA]) (by rcases hm with rfl | rfl <;> decide)
  obtain ⟨dir, hs, hdir⟩ := hg.split
  rw [hp, hs, hdir, e1]
  have h1 : Lib.hasSuffix (pre ++ n.data.toList) [47] = false := by
    rw [Bool.eq_false_iff]
    intro e
    simp only [Lib.hasSuffix, List.isSuffixOf_iff_suffix] at e
    obtain ⟨u, hu⟩ := e
    have h1 := congrArg List.getLast? hu
    rw [List.getLast?_append, List.getLast?_append] at h1
    cases hl : n.data.toList.getLast? with
    | none => exact n0 (List.getLast?_eq_none_iff.1 hl)
    | some c =>
      rw [hl] at h1
      simp at h1
      subst h1
      exact n5 (List.mem_of_getLast? hl)
  rw [h1]
  simp [n2, n3]
theorem join_base {d n : ByteArray} (h0 : ¬ d.data.toList = []) (hn : nameB n = true) {k i : Nat} (hk : IsTrim (joinB d n) k) (hi : IsCut (joinB d n) k i) : bB (joinB d n) k i = n := by
  obtain ⟨n0, n1, n2, n3, n4, n5⟩ := (nameB_iff n).1 hn
  obtain ⟨pre, hp, hpp, ht⟩ := join_list d n
  obtain ⟨t, ht, -⟩ := ht h0
  generalize joinB d n = j at *
  have hnz : 0 < n.data.toList.length := List.length_pos_iff.2 n0
  have hl : j.size = pre.length + n.data.toList.length := by rw [← sz, hp, List.length_append]
  have hpl : pre.length = t.length + 1 := by rw [ht]; simp
  have hnn : ∀ q, pre.length ≤ q → q < j.size → j.data[q]! ≠ 47 := fun q h1 h2 e => by
    have h3 : q < j.data.toList.length := by rw [sz]; exact h2
    rw [← toList_get _ _ h3] at e
    have : j.data.toList[q] = n.data.toList[q - pre.length]'(by omega) := by
      simp only [hp]; rw [List.getElem_append_right h1]
    rw [this] at e
    exact n5 (e ▸ List.getElem_mem _)
  have hpe : j.data[pre.length - 1]! = 47 := by
    have h3 : pre.length - 1 < j.data.toList.length := by rw [sz]; omega
    rw [← toList_get _ _ h3]
    simp only [hp, ht]
    rw [List.getElem_append_left (by simp), List.getElem_append_right (by simp)]
    simp
  have hkk : k = j.size := by
    rcases Nat.lt_or_ge k j.size with h | h
    · exact absurd (hk.2.1 (j.size - 1) (by omega) (by omega)) (hnn _ (by omega) (by omega))
    · have := hk.1; omega
  subst hkk
  have hii : i = pre.length := by
    rcases Nat.lt_trichotomy i pre.length with h | h | h
    · exact absurd hpe (hi.2.1 (pre.length - 1) (by omega) (by omega))
    · exact h
    · rcases hi.2.2 with h1 | h1
      · omega
      · exact absurd h1 (hnn (i - 1) (by omega) (by have := hi.1; omega))
  rw [bB, if_neg (by omega)]
  apply ByteArray.ext; apply Array.ext'
  rw [ex_data, hii, List.take_of_length_le (by rw [sz]; omega), hp]
  simp
theorem join_long {d n : ByteArray} (h : 128 < (joinB d n).size) : splitS (joinB d n).data.toList = (false, false, [], 10) := by
  refine split_long (fun e => ?_) (.inl (by rw [sz]; exact h))
  have h1 : (joinB d n).data.toList.length = 0 := by rw [e]; rfl
  rw [sz] at h1; omega
theorem join_size (d n : ByteArray) : (joinB d n).size ≤ d.size + n.size + 1 := by
  unfold joinB
  split
  · rw [ByteArray.size_append]; omega
  · rw [ByteArray.size_append, ByteArray.size_append]; have : (⟨#[47]⟩ : ByteArray).size = 1 := rfl; omega
end Go.Proofs.YtinmdegmnepheaaDoor
