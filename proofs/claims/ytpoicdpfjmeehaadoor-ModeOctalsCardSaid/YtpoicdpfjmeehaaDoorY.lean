/- ModeTexts. -/
import Derived.Test.YtpoicdpfjmeehaaDoorX
namespace Go.Proofs.YtpoicdpfjmeehaaDoor
open Go.RowKit

/-- A text of any numbers. -/
def textB (k m : Int) : Bytes := if rightB m = true ∧ 0 ≤ k ∧ k ≤ 2 then textS k.toNat m.toNat else []
def TextPost (l : Bytes) (w : World) (e : Ending) (w' : World) : Prop := ∃ s : ByteArray, s.data.toList = l ∧ e = .returned (.string s) ∧ Below w.heap.size w w'
theorem text_no (k m : Int) (h : ¬ (rightB m = true ∧ 0 ≤ k ∧ k ≤ 2)) (w : World) : Calls Tryd.prog 18 #[.int .i64 k, .int .i64 m] w (TextPost [] w) := by
  cases hr : rightB m with
  | false =>
    clear h
    go_enter Tryd.func18, Tryd.ntmps18
    go_wp2_with fail
    refine (right_any _ _).mono ?_
    rintro e w' ⟨he, rfl⟩
    rw [hr] at he
    subst he
    clear hr
    go_wp2
    go_ret
    exact ⟨⟨#[]⟩, rfl, rfl, Below.refl _ _⟩
  | true =>
    by_cases hk : k < 0
    · clear h
      go_enter Tryd.func18, Tryd.ntmps18
      go_wp2_with fail
      refine (right_any _ _).mono ?_
      rintro e w' ⟨he, rfl⟩
      rw [hr] at he
      subst he
      clear hr
      go_wp2
      go_ret
      exact ⟨⟨#[]⟩, rfl, rfl, Below.refl _ _⟩
    · have hk2 : 2 < k := by
        rcases Int.lt_or_le 2 k with h2 | h2
        · exact h2
        · exact absurd ⟨hr, by omega, h2⟩ h
      clear h
      go_enter Tryd.func18, Tryd.ntmps18
      go_wp2_with fail
      refine (right_any _ _).mono ?_
      rintro e w' ⟨he, rfl⟩
      rw [hr] at he
      subst he
      clear hr
      go_wp2
      go_ret
      exact ⟨⟨#[]⟩, rfl, rfl, Below.refl _ _⟩
theorem rtext_no (k m : Int) (h : ¬ (rightB m = true ∧ 0 ≤ k ∧ k ≤ 2)) (hm : m < 9223372036854775808) (w : World) : Calls Tryd.prog 19 #[.int .i64 k, .int .i64 m] w (TextPost [] w) := by
  have HM := Lib.hid hm
  clear hm
  cases hr : rightB m with
  | false =>
    clear h
    go_enter Tryd.func19, Tryd.ntmps19
    go_wp2_with fail
    refine (rright_any _ HM.out _).mono ?_
    rintro e w' ⟨he, rfl⟩
    rw [hr] at he
    subst he
    clear hr
    go_wp2
    go_ret
    exact ⟨⟨#[]⟩, rfl, rfl, Below.refl _ _⟩
  | true =>
    by_cases hk : k < 0
    · clear h
      go_enter Tryd.func19, Tryd.ntmps19
      go_wp2_with fail
      refine (rright_any _ HM.out _).mono ?_
      rintro e w' ⟨he, rfl⟩
      rw [hr] at he
      subst he
      clear hr
      go_wp2
      go_ret
      exact ⟨⟨#[]⟩, rfl, rfl, Below.refl _ _⟩
    · have hk2 : 2 < k := by
        rcases Int.lt_or_le 2 k with h2 | h2
        · exact h2
        · exact absurd ⟨hr, by omega, h2⟩ h
      clear h
      go_enter Tryd.func19, Tryd.ntmps19
      go_wp2_with fail
      refine (rright_any _ HM.out _).mono ?_
      rintro e w' ⟨he, rfl⟩
      rw [hr] at he
      subst he
      clear hr
      go_wp2
      go_ret
      exact ⟨⟨#[]⟩, rfl, rfl, Below.refl _ _⟩
theorem text_all (k m : Int) (w : World) : Calls Tryd.prog 18 #[.int .i64 k, .int .i64 m] w (TextPost (textB k m) w) := by
  unfold textB
  split
  · rename_i h
    obtain ⟨hr, h0, h2⟩ := h
    obtain ⟨n, rfl, hn⟩ := right_nat hr
    obtain ⟨q, rfl⟩ : ∃ q : Nat, k = q := ⟨k.toNat, by omega⟩
    exact text_any q n (by omega) hr hn w
  · rename_i h
    exact text_no k m h w
theorem rtext_all (k m : Int) (hm : m < 9223372036854775808) (w : World) : Calls Tryd.prog 19 #[.int .i64 k, .int .i64 m] w (TextPost (textB k m) w) := by
  unfold textB
  split
  · rename_i h
    obtain ⟨hr, h0, h2⟩ := h
    obtain ⟨n, rfl, hn⟩ := right_nat hr
    obtain ⟨q, rfl⟩ : ∃ q : Nat, k = q := ⟨k.toNat, by omega⟩
    exact rtext_any q n (by omega) hr hn w
  · rename_i h
    exact rtext_no k m h hm w

theorem HasE.below {w w' : World} (h : HasE w) (hb : Below w.heap.size w w') : HasE w' := by
  obtain ⟨te, pe, hv⟩ := h
  exact ⟨te, pe, by rw [hb.cell (p := ⟨0, 0, none⟩) (World.block_lt_of_cell? w ⟨0, 0, none⟩ hv)]; exact hv⟩
theorem HasM.below {w w' : World} (h : HasM w) (hb : Below w.heap.size w w') : HasM w' := by
  obtain ⟨v, hv⟩ := h
  exact ⟨v, by rw [hb.cell (p := ⟨4, 0, none⟩) (World.block_lt_of_cell? w ⟨4, 0, none⟩ hv)]; exact hv⟩
/-- What an Octal tells. -/
theorem octEnd_cases (o : Option Nat) : ∃ (n : Nat) (b : Bool), octEnd o = .returned (.tuple #[.int .i64 n, .bool b]) := by
  cases o with
  | none => exact ⟨0, false, rfl⟩
  | some n => exact ⟨n, true, rfl⟩
set_option maxHeartbeats 1000000 in
/-- ModeTexts. -/
theorem texts_law (k m : Int) (s : ByteArray) (w : World) (hm : m < 9223372036854775808) (hs : s.size ≤ 140737488351232) (hM : HasM w) (hE : HasE w) :
    Calls Tryd.prog 4 #[.int .i64 k, .int .i64 m, .string s] w fun e w' => e = .returned (.bool true) ∧ Below w.heap.size w w' := by
  have HMS := Lib.hid (And.intro hm hs)
  clear hm hs
  obtain ⟨n, b, ho⟩ := octEnd_cases (octS s.data.toList)
  go_enter Tryd.func4, Tryd.ntmps4
  go_wp2_with fail
  refine (shown_any _ hM).mono ?_
  rintro e w1 ⟨rfl, hb⟩
  have HB := Lib.hid hb
  have hE1 := hE.below hb
  clear hb
  go_wp2_with fail
  refine (octal_all s _ hE1).mono ?_
  rintro e w2 ⟨he, hb⟩
  rw [ho] at he
  subst he
  have HB2 := Lib.hid (HB.out.trans (hb.mono HB.out.size))
  clear hb
  go_wp2_with fail
  refine (roctal_any s HMS.out.2 _).mono ?_
  rintro e w3 ⟨he, rfl⟩
  rw [ho] at he
  subst he
  go_wp2_with fail
  refine (text_all k m _).mono ?_
  rintro e w4 ⟨t1, h1, rfl, hb⟩
  have HB4 := Lib.hid (HB2.out.trans (hb.mono HB2.out.size))
  clear hb
  go_wp2_with fail
  refine (rtext_all k m HMS.out.1 _).mono ?_
  rintro e w5 ⟨t2, h2, rfl, hb⟩
  have HB5 := Lib.hid (HB4.out.trans (hb.mono HB4.out.size))
  clear hb
  obtain rfl : t1 = t2 := by
    apply ByteArray.ext
    apply Array.toList_inj.1
    rw [h1, h2]
  clear h1 h2 ho
  go_wp2
  go_ret
  exact ⟨rfl, HB5.out⟩
end Go.Proofs.YtpoicdpfjmeehaaDoor
