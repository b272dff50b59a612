/- What Split tells, and names: plain laws. -/
import Derived.Test.YtinmdegmnepheaaDoorE
namespace Go.Proofs.YtinmdegmnepheaaDoor

theorem partsA_no : ∀ (l acc : Bytes), (47 : UInt8) ∉ acc → ∀ x ∈ partsA l acc, (47 : UInt8) ∉ x
  | [], acc, h, x, hx => by
    by_cases e : acc = []
    · simp [partsA, e] at hx
    · simp [partsA, e] at hx; subst hx; simpa using h
  | c :: l, acc, h, x, hx => by
    by_cases hc : c = 47
    · by_cases e : acc = []
      · simp only [partsA, hc, e, if_true] at hx
        exact partsA_no l [] (by simp) x hx
      · simp only [partsA, hc, e, if_true, if_false, List.mem_cons] at hx
        rcases hx with rfl | hx
        · simpa using h
        · exact partsA_no l [] (by simp) x hx
    · simp only [partsA, hc, if_false] at hx
      exact partsA_no l (c :: acc) (by simp [h]; exact fun e => hc e.symm) x hx
theorem parts_no (l : Bytes) : ∀ x ∈ parts l, (47 : UInt8) ∉ x := partsA_no l [] (by simp)

theorem prefix_no {b : Bytes} (h : (47 : UInt8) ∉ b) : Lib.hasPrefix b [47] = false := by
  cases b with
  | nil => rfl
  | cons c l =>
    have hc : ¬ c = 47 := fun e => h (by simp [e])
    simp [Lib.hasPrefix, List.isPrefixOf, Ne.symm hc]
theorem suffix_no {b : Bytes} (h : (47 : UInt8) ∉ b) : Lib.hasSuffix b [47] = false := by
  rw [Bool.eq_false_iff]
  intro e
  simp only [Lib.hasSuffix, List.isSuffixOf_iff_suffix] at e
  obtain ⟨t, rfl⟩ := e
  exact h (by simp)

theorem name_split {s : ByteArray} (h : nameB s = true) : splitS s.data.toList = (false, false, [s.data.toList], 0) := by
  obtain ⟨h0, hs, h1, h2, hp, hno⟩ := (nameB_iff s).1 h
  have hpt : parts s.data.toList = [s.data.toList] := by rw [parts_end _ hno, if_neg h0]
  have hl : s.data.toList.length = s.size := sz s
  rw [splitS, if_neg h0, if_neg (by
    rw [hpt, hl]
    rintro (h | ⟨x, hx, h⟩)
    · omega
    · obtain rfl := List.mem_singleton.1 hx
      rw [hl] at h; omega), if_neg (by rw [← plain_okb]; simp [hp]), hpt, prefix_no hno, suffix_no hno]
  simp [h1, h2]
theorem split_name {s : ByteArray} (h : splitS s.data.toList = (false, false, [s.data.toList], 0)) : nameB s = true := by
  rw [nameB_iff]
  generalize hb : s.data.toList = b at *
  have hl : b.length = s.size := by rw [← hb]; exact sz s
  unfold splitS at h
  split at h
  · simp at h
  rename_i h0
  split at h
  · simp at h
  rename_i h1
  split at h
  · simp at h
  rename_i h2
  simp only [Prod.mk.injEq, Bool.or_eq_false_iff] at h
  obtain ⟨hp, ⟨hsu, hd, hdd⟩, hf, _⟩ := h
  have hmem : b ∈ (parts b).filter (fun x => decide (¬ x = [46])) := by rw [hf]; simp
  obtain ⟨hm, hne⟩ := List.mem_filter.1 hmem
  have hne' : ¬ b = [46] := by simpa using hne
  have hno := parts_no b b hm
  have hpt : parts b = [b] := by rw [parts_end _ hno, if_neg h0]
  rw [hpt] at hdd h1
  refine ⟨h0, ?_, hne', by simpa using hdd, ?_, hno⟩
  · have : ¬ 14 < b.length := fun hh => h1 (.inr ⟨b, by simp, hh⟩)
    omega
  · rw [plain_okb]; simpa using h2
theorem one_eq {s : ByteArray} {abs dir : Bool} {l : List Bytes} {err : Int} (h : splitS s.data.toList = (abs, dir, l, err)) :
    nameB s = decide (abs = false ∧ dir = false ∧ l = [s.data.toList] ∧ err = 0) := by
  rw [Bool.eq_iff_iff, decide_eq_true_eq]
  constructor
  · intro hn
    have := name_split hn
    rw [h] at this
    simpa using this
  · rintro ⟨rfl, rfl, rfl, rfl⟩
    exact split_name h
end Go.Proofs.YtinmdegmnepheaaDoor
namespace Go.Proofs.YtinmdegmnepheaaDoor
open Go.RowKit
set_option maxHeartbeats 1000000 in
theorem one_law (s : ByteArray) (w : World) (hs : s.size ≤ 140737488351232) :
    Calls Tryd.prog 8 #[.string s] w fun e w' => e = .returned (.bool true) ∧ Below w.heap.size w w' := by
  go_enter Tryd.func8, Tryd.ntmps8
  go_wp2_with fail
  refine (shown_any w).mono ?_
  rintro e w1 ⟨rfl, hb⟩
  have HB := Lib.hid hb
  clear hb
  go_wp2_with fail
  refine (split_any _ _ hs).mono ?_
  rintro e w2 ⟨abs, dir, v, l, err, rfl, ho, hb, hsp⟩
  have HO := Lib.hid (one_eq hsp)
  have HB2 := Lib.hid hb
  obtain ⟨a, cap, rfl, hcells⟩ := Sl.of_own ho
  clear hb hsp ho
  by_cases he : err = 0
  · subst he
    by_cases hl : l.length = 1
    · obtain ⟨x, rfl⟩ := List.length_eq_one_iff.1 hl
      obtain ⟨b0, o0, rfl, hc⟩ := hcells 0 (by simp)
      replace hc : w2.cell? ⟨b0, o0, none⟩ = some (.string x) := hc
      have hbl := World.block_lt_of_cell? w2 ⟨b0, o0, none⟩ hc
      simp only at hbl
      clear hcells
      have H1 := Lib.hid (toList_data x)
      have H2 := Lib.hid (toList_data s)
      go_wp2_with (go_at_call 16; refine (name_any _ _).mono ?_; rintro e w' ⟨rfl, rfl⟩)
      all_goals go_ret
      all_goals refine ⟨ret_bool ?_, (HB.out.trans (HB2.out.mono HB.out.size)).alloc (by have := HB.out.size; have := HB2.out.size; omega) _⟩
      all_goals (rw [HO.out]; simp only [H1.out, H2.out] at *; simp_all)
    · have hl1 : ((l.length : Int) == 1) = false := by simp; omega
      have HF : Hid (nameB s = false) := Lib.hid (by
        rw [HO.out, decide_eq_false_iff_not]
        rintro ⟨_, _, h, _⟩
        have := congrArg List.length h
        simp at this; omega)
      go_wp2_with (go_at_call 16; refine (name_any _ _).mono ?_; rintro e w' ⟨rfl, rfl⟩)
      all_goals go_ret
      all_goals exact ⟨ret_bool (by rw [HF.out]; rfl), (HB.out.trans (HB2.out.mono HB.out.size)).alloc (by have := HB.out.size; have := HB2.out.size; omega) _⟩
  · have he1 : (err == 0) = false := by simpa using he
    have HF : Hid (nameB s = false) := Lib.hid (by
      rw [HO.out, decide_eq_false_iff_not]
      rintro ⟨_, _, _, h⟩
      exact he h)
    go_wp2_with (go_at_call 16; refine (name_any _ _).mono ?_; rintro e w' ⟨rfl, rfl⟩)
    all_goals go_ret
    all_goals exact ⟨ret_bool (by rw [HF.out]; rfl), (HB.out.trans (HB2.out.mono HB.out.size)).alloc (by have := HB.out.size; have := HB2.out.size; omega) _⟩
end Go.Proofs.YtinmdegmnepheaaDoor
