/- What a field and a password have to do with each other; what is shown in any case. -/
import Derived.Test.YtkdjddmjcbdhgaaDoorG
namespace Go.Proofs.YtkdjddmjcbdhgaaDoor
open Go.RowKit

theorem sl_sl (n : Int) : sl ((sl n : Nat) : Int) = sl n := by unfold sl; omega
theorem FS_is (n : Int) (p : ByteArray) : isField (FS n p) := fieldS_is _ _
theorem FS_len (n : Int) (p : ByteArray) : (FS n p).length = 21 := fieldS_len _ _
theorem FS_salt (n : Int) (p : ByteArray) : readN ((FS n p).take 4) = sl n := fieldS_salt (sl_cast n).2
theorem not_field_nil : ¬ isField [] := by rintro ⟨x, y, he, -⟩; simp at he
theorem FS_take5 (n : Int) (p : ByteArray) : (FS n p).take 5 = hexN 4 (sl n) ++ [36] := by
  unfold FS fieldS
  rw [List.take_append, hexN_len, List.take_of_length_le (by rw [hexN_len]; omega)]
  rfl
theorem match_iff {f : ByteArray} {n : Int} {a : ByteArray} (h : f.data.toList = FS n a) (b : ByteArray) : MatchP f b ↔ mixS (sl n) a.data.toList = mixS (sl n) b.data.toList := by
  unfold MatchP
  rw [h, FS_salt]
  have hi : FS ((sl n : Nat) : Int) b = FS n a ↔ mixS (sl n) a.data.toList = mixS (sl n) b.data.toList := by
    unfold FS
    rw [sl_sl, fieldS_inj (mix_cast _ _).2 (mix_cast _ _).2]
    exact eq_comm
  rw [hi]
  constructor
  · rintro (⟨h1, _⟩ | ⟨_, h2⟩)
    · have := FS_len n a; rw [h1] at this; simp at this
    · exact h2
  · exact fun h2 => .inr ⟨FS_is _ _, h2⟩
theorem match_self {f : ByteArray} {n : Int} {a : ByteArray} (h : f.data.toList = FS n a) : MatchP f a := (match_iff h a).2 rfl

theorem bool_yes {f : FuncId} {args : Array Value} {w : World} {P : Prop} {Q : Ending → World → Prop} (h : Calls Tryd.prog f args w fun e w' => ∃ r : Bool, e = .returned (.bool r) ∧ (r = true ↔ P) ∧ Below w.heap.size w w') (hp : P)
    (hq : ∀ w', Below w.heap.size w w' → Q (.returned (.bool true)) w') : Calls Tryd.prog f args w Q :=
  h.mono fun e w' ⟨r, he, hr, hb⟩ => by rw [hr.2 hp] at he; rw [he]; exact hq w' hb
theorem bool_no {f : FuncId} {args : Array Value} {w : World} {P : Prop} {Q : Ending → World → Prop} (h : Calls Tryd.prog f args w fun e w' => ∃ r : Bool, e = .returned (.bool r) ∧ (r = true ↔ P) ∧ Below w.heap.size w w') (hp : ¬ P)
    (hq : ∀ w', Below w.heap.size w w' → Q (.returned (.bool false)) w') : Calls Tryd.prog f args w Q :=
  h.mono fun e w' ⟨r, he, hr, hb⟩ => by
    have : r = false := by cases r with | false => rfl | true => exact absurd (hr.1 rfl) hp
    rw [this] at he; rw [he]; exact hq w' hb

set_option maxHeartbeats 1000000 in
theorem shown_any (w : World) (hT : HasT w) : Calls Tryd.prog 9 #[] w fun e w' => e = .returned (.bool true) ∧ Below w.heap.size w w' := by
  go_enter Tryd.func9, Tryd.ntmps9
  go_wp2_with fail
  refine (field_any 7 ⟨#[]⟩ _ (by decide) hT).mono ?_
  rintro e w1 ⟨f, hf, rfl, hb⟩
  have hz : f.size = 21 := by rw [← sz, hf, FS_len]
  have h5 : ((f.extract 0 5).toList == [48, 48, 48, 55, 36]) = true := by
    rw [toList_data, ex_data, hf, beq_iff_eq]
    show ((hexN 4 (sl 7) ++ 36 :: hexN 16 _).take 5).drop 0 = _
    rfl
  have hz1 : (f.size : Int) = 21 := by omega
  have HF := Lib.hid hf
  have HB := Lib.hid hb
  have HZ := Lib.hid hz
  clear hf hb hz
  go_wp2_with fail
  refine bool_yes (matches_any f _ _ (by have := HZ.out; omega) (by decide) (hT.below HB.out)) (match_self HF.out) ?_
  intro w2 hb2
  have HB2 := Lib.hid (HB.out.trans (hb2.mono HB.out.size))
  clear hb2
  go_wp2_with fail
  refine bool_yes (matches_any _ _ _ (by decide) (by decide) (hT.below HB2.out)) (.inl ⟨rfl, rfl⟩) ?_
  intro w3 hb3
  have HB3 := Lib.hid (HB2.out.trans (hb3.mono HB2.out.size))
  clear hb3
  go_wp2_with fail
  refine bool_no (matches_any _ _ _ (by decide) (by decide) (hT.below HB3.out)) ?_ ?_
  · rintro (⟨_, h⟩ | ⟨h, _⟩)
    · cases h
    · exact not_field_nil h
  intro w4 hb4
  have HB4 := Lib.hid (HB3.out.trans (hb4.mono HB3.out.size))
  clear hb4
  go_wp2_with fail
  refine bool_no (matches_any _ _ _ (by decide) (by decide) (hT.below HB4.out)) ?_ ?_
  · rintro (⟨h, _⟩ | ⟨⟨x, y, he, h1, h2, -⟩, _⟩)
    · cases h
    · have := congrArg List.length he
      simp [h1, h2] at this
  intro w5 hb5
  have HB5 := Lib.hid (HB4.out.trans (hb5.mono HB4.out.size))
  clear hb5
  go_wp2_with fail
  refine bool_yes (right_any _ _ (by decide)) (.inr (.inl rfl)) ?_
  intro w6 hb6
  have HB6 := Lib.hid (HB5.out.trans (hb6.mono HB5.out.size))
  clear hb6
  go_wp2
  go_ret
  exact ⟨rfl, HB6.out⟩

/-- MixTells. -/
theorem tells_law (n : Int) (p : ByteArray) (w : World) (hp : p.size ≤ 140737488351232) (hT : HasT w) :
    Calls Tryd.prog 3 #[.int .i64 n, .string p] w fun e w' => e = .returned (.bool true) ∧ Below w.heap.size w w' := by
  go_enter Tryd.func3, Tryd.ntmps3
  go_wp2_with fail
  refine (shown_any _ hT).mono ?_
  rintro e w1 ⟨rfl, hb⟩
  have HB := Lib.hid hb
  clear hb
  by_cases hl : p.size ≤ 2000
  · have hl1 : ¬ (2000 : Int) < p.size := by omega
    go_wp2_with fail
    refine (mix_any n p _ hl).mono ?_
    rintro e w2 ⟨rfl, rfl⟩
    go_wp2_with fail
    refine (rmix_any n p _ hl).mono ?_
    rintro e w2 ⟨rfl, rfl⟩
    go_wp2_with fail
    refine (field_any n p _ hl (hT.below HB.out)).mono ?_
    rintro e w2 ⟨s1, hs1, rfl, hb1⟩
    have HB1 := Lib.hid (HB.out.trans (hb1.mono HB.out.size))
    have HS1 := Lib.hid hs1
    clear hb1 hs1
    go_wp2_with fail
    refine (rfield_any n p _ hl).mono ?_
    rintro e w3 ⟨s2, hs2, rfl, hb2⟩
    have HB2 := Lib.hid (HB1.out.trans (hb2.mono HB1.out.size))
    obtain rfl : s1 = s2 := data_eq.2 (HS1.out.trans hs2.symm)
    clear hb2 hs2
    go_wp2
    go_ret
    exact ⟨rfl, HB2.out⟩
  · have hl1 : (2000 : Int) < p.size := by omega
    go_wp2
    go_ret
    exact ⟨rfl, HB.out⟩

theorem same_bool {P : Prop} {a b : Bool} (ha : a = true ↔ P) (hb : b = true ↔ P) : a = b := by
  have := ha.trans hb.symm
  cases a <;> cases b <;> simp_all

/-- MixMatches. -/
theorem matches_law (f p : ByteArray) (w : World) (hf : f.size ≤ 140737488351232) (hp : p.size ≤ 140737488351232) (hT : HasT w) :
    Calls Tryd.prog 4 #[.string f, .string p] w fun e w' => e = .returned (.bool true) ∧ Below w.heap.size w w' := by
  go_enter Tryd.func4, Tryd.ntmps4
  go_wp2_with fail
  refine (shown_any _ hT).mono ?_
  rintro e w1 ⟨rfl, hb⟩
  have HB := Lib.hid hb
  clear hb
  by_cases hl : p.size ≤ 2000
  · have hl1 : ¬ (2000 : Int) < p.size := by omega
    go_wp2_with fail
    refine (right_any f _ hf).mono ?_
    rintro e w2 ⟨r1, rfl, hr1, hb2⟩
    have HB2 := Lib.hid (HB.out.trans (hb2.mono HB.out.size))
    have HR1 := Lib.hid hr1
    clear hb2 hr1
    go_wp2_with fail
    refine (rright_any f _ hf).mono ?_
    rintro e w3 ⟨r2, rfl, hr2, hb3⟩
    have HB3 := Lib.hid (HB2.out.trans (hb3.mono HB2.out.size))
    obtain rfl : r1 = r2 := same_bool HR1.out hr2
    clear hb3 hr2
    go_wp2_with fail
    refine (matches_any f p _ hf hl (hT.below HB3.out)).mono ?_
    rintro e w4 ⟨r3, rfl, hr3, hb4⟩
    have HB4 := Lib.hid (HB3.out.trans (hb4.mono HB3.out.size))
    have HR3 := Lib.hid hr3
    clear hb4 hr3
    go_wp2_with fail
    refine (rmatches_any f p _ hf hl).mono ?_
    rintro e w5 ⟨r4, rfl, hr4, hb5⟩
    have HB5 := Lib.hid (HB4.out.trans (hb5.mono HB4.out.size))
    obtain rfl : r3 = r4 := same_bool HR3.out hr4
    clear hb5 hr4
    go_wp2
    go_ret
    exact ⟨rfl, HB5.out⟩
  · have hl1 : (2000 : Int) < p.size := by omega
    go_wp2
    go_ret
    exact ⟨rfl, HB.out⟩

/-- MixBack. -/
theorem back_law (n : Int) (a b : ByteArray) (w : World) (ha : a.size ≤ 140737488351232) (hb : b.size ≤ 140737488351232) (hT : HasT w) :
    Calls Tryd.prog 5 #[.int .i64 n, .string a, .string b] w fun e w' => e = .returned (.bool true) ∧ Below w.heap.size w w' := by
  go_enter Tryd.func5, Tryd.ntmps5
  go_wp2_with fail
  refine (shown_any _ hT).mono ?_
  rintro e w1 ⟨rfl, hb⟩
  have HB := Lib.hid hb
  clear hb
  by_cases hl : a.size ≤ 2000
  · have hl1 : ¬ (2000 : Int) < a.size := by omega
    by_cases hk : b.size ≤ 2000
    · have hk1 : ¬ (2000 : Int) < b.size := by omega
      go_wp2_with fail
      refine (field_any n a _ hl (hT.below HB.out)).mono ?_
      rintro e w2 ⟨f, hf, rfl, hb2⟩
      have HB2 := Lib.hid (HB.out.trans (hb2.mono HB.out.size))
      have hfs : f.size ≤ 140737488351232 := by rw [← sz, hf, FS_len]; decide
      have HF := Lib.hid hf
      clear hb2 hf
      go_wp2_with fail
      refine bool_yes (right_any f _ hfs) (.inr (.inr (by rw [HF.out]; exact FS_is _ _))) ?_
      intro w3 hb3
      have HB3 := Lib.hid (HB2.out.trans (hb3.mono HB2.out.size))
      clear hb3
      go_wp2_with fail
      refine bool_yes (matches_any f a _ hfs hl (hT.below HB3.out)) (match_self HF.out) ?_
      intro w4 hb4
      have HB4 := Lib.hid (HB3.out.trans (hb4.mono HB3.out.size))
      clear hb4
      go_wp2_with fail
      refine (matches_any f b _ hfs hk (hT.below HB4.out)).mono ?_
      rintro e w5 ⟨r, rfl, hr, hb5⟩
      have HB5 := Lib.hid (HB4.out.trans (hb5.mono HB4.out.size))
      rw [match_iff HF.out b] at hr
      have HR := Lib.hid hr
      clear hb5 hr
      have h16 := and16 n
      have h17 : n % 65536 % 65536 = n % 65536 := by omega
      go_wp2_with fail
      refine (mix_any n a _ hl).mono ?_
      rintro e w6 ⟨rfl, rfl⟩
      go_wp2_with fail
      refine (mix_any n b _ hk).mono ?_
      rintro e w6 ⟨rfl, rfl⟩
      have HM : Hid (r = (mixZ (n % 65536) a.data.toList == mixZ (n % 65536) b.data.toList)) := Lib.hid (by
        rw [(sl_cast n).1, (mix_cast _ _).1, (mix_cast (sl n) b.data.toList).1]
        rw [Bool.eq_iff_iff, HR.out, beq_iff_eq]
        omega)
      have hm1 := HM.out
      generalize mixZ (n % 65536) b.data.toList = zb at *
      go_wp2_with fail
      refine (mix_any n a _ hl).mono ?_
      rintro e w6 ⟨rfl, rfl⟩
      go_wp2_with fail
      refine (mix_any (n % 65536) a _ hl).mono ?_
      rintro e w6 ⟨he, rfl⟩
      rw [h17] at he
      subst he
      go_wp2
      go_ret
      exact ⟨rfl, HB5.out⟩
    · have hk1 : (2000 : Int) < b.size := by omega
      go_wp2
      go_ret
      exact ⟨rfl, HB.out⟩
  · have hl1 : (2000 : Int) < a.size := by omega
    go_wp2
    go_ret
    exact ⟨rfl, HB.out⟩

set_option maxHeartbeats 2000000 in
/-- MixEmpty. -/
theorem empty_law (p f : ByteArray) (w : World) (hp : p.size ≤ 140737488351232) (hf : f.size ≤ 140737488351232) (hT : HasT w) :
    Calls Tryd.prog 7 #[.string p, .string f] w fun e w' => e = .returned (.bool true) ∧ Below w.heap.size w w' := by
  go_enter Tryd.func7, Tryd.ntmps7
  go_wp2_with fail
  refine (shown_any _ hT).mono ?_
  rintro e w1 ⟨rfl, hb⟩
  have HB := Lib.hid hb
  clear hb
  by_cases hl : p.size ≤ 2000
  · have hl1 : ¬ (2000 : Int) < p.size := by omega
    go_wp2_with fail
    refine (rright_any f _ hf).mono ?_
    rintro e w2 ⟨r1, rfl, hr1, hb2⟩
    have HB2 := Lib.hid (HB.out.trans (hb2.mono HB.out.size))
    have HR1 := Lib.hid hr1
    clear hb2 hr1
    go_wp2_with fail
    refine (matches_any ⟨#[]⟩ p _ (by decide) hl (hT.below HB2.out)).mono ?_
    rintro e w3 ⟨r2, rfl, hr2, hb3⟩
    have HB3 := Lib.hid (HB2.out.trans (hb3.mono HB2.out.size))
    obtain rfl : r2 = p.toList.isEmpty := by
      rw [Bool.eq_iff_iff, hr2, emp_iff]
      constructor
      · rintro (⟨_, h⟩ | ⟨h, _⟩)
        · exact h
        · exact absurd h not_field_nil
      · exact fun h => .inl ⟨rfl, h⟩
    clear hb3 hr2
    cases hpe : p.toList.isEmpty
    all_goals
      go_wp2_with fail
      refine bool_no (matches_any ⟨#[42]⟩ p _ (by decide) hl (hT.below HB3.out)) ?_ ?_
      · rintro (⟨h, _⟩ | ⟨⟨x, y, he, h1, h2, -⟩, _⟩)
        · cases h
        · have := congrArg List.length he
          simp [h1, h2] at this
      intro w4 hb4
      have HB4 := Lib.hid (HB3.out.trans (hb4.mono HB3.out.size))
      clear hb4
      cases r1 with
      | true =>
        go_wp2
        go_ret
        exact ⟨rfl, HB4.out⟩
      | false =>
        go_wp2_with fail
        refine bool_no (matches_any f p _ hf hl (hT.below HB4.out)) ?_ ?_
        · rintro (⟨h, _⟩ | ⟨h, _⟩)
          · exact absurd (HR1.out.2 (.inl h)) (by simp)
          · exact absurd (HR1.out.2 (.inr (.inr h))) (by simp)
        intro w5 hb5
        have HB5 := Lib.hid (HB4.out.trans (hb5.mono HB4.out.size))
        clear hb5
        go_wp2
        go_ret
        exact ⟨rfl, HB5.out⟩
  · have hl1 : (2000 : Int) < p.size := by omega
    go_wp2
    go_ret
    exact ⟨rfl, HB.out⟩

end Go.Proofs.YtkdjddmjcbdhgaaDoor
