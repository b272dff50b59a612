import Derived.Test.YtinmdegmnepheaaWalkJ
import Derived.IntWalk
namespace Go.Proofs.Ytinmdegmnepheaa
open Go.RowKit

/-- Inodes 1 to i - 1 are there, those behind the first as files that nothing leads to; no more. -/
def FullTo (S : Tab) (i : Nat) : Prop :=
  (∀ k, 1 ≤ k → k < i → ∃ b n, S k = some (b, n) ∧ (2 ≤ k → n.links = 0 ∧ n.holds = 1 ∧ n.names = [])) ∧ ∀ k, i ≤ k → S k = none
theorem FullTo.free {S : Tab} {i : Nat} (h : FullTo S i) (h2 : 2 ≤ i) (hi : i ≤ 200) : Free S (i - 1) :=
  ⟨by omega, h.2 _ (by omega), fun j hj => by obtain ⟨b, n, e, _⟩ := h.1 (j + 1) (by omega) (by omega); rw [e]; simp⟩
theorem FullTo.next {S : Tab} {i b : Nat} {n : Nd} (h : FullTo S i) (hl : n.links = 0) (hh : n.holds = 1) (hn : n.names = []) (h1 : 1 ≤ i) : FullTo (upd S (i - 1 + 1) (some (b, n))) (i + 1) := by
  obtain ⟨i, rfl⟩ : ∃ j, i = j + 1 := ⟨i - 1, by omega⟩
  simp only [Nat.add_sub_cancel]
  refine ⟨fun k h1 h2 => ?_, fun k hk => ?_⟩
  · by_cases e : k = i + 1
    · exact ⟨b, n, by rw [e, upd_same], fun _ => ⟨hl, hh, hn⟩⟩
    · rw [upd_other _ _ e]; exact h.1 k h1 (by omega)
  · rw [upd_other _ _ (by omega)]; exact h.2 k (by omega)
theorem FullTo.all {S : Tab} (h : FullTo S 201) : ∀ i, i < 200 → S (i + 1) ≠ none := fun i hi => by
  obtain ⟨b, n, e, _⟩ := h.1 (i + 1) (by omega) (by omega); rw [e]; simp
theorem FullTo.refree {S : Tab} (h : FullTo S 201) (k : Nat) (h2 : 2 ≤ k) (hk : k ≤ 200) : Free (upd S k none) (k - 1) := by
  refine ⟨by omega, by rw [show k - 1 + 1 = k by omega, upd_same], fun j hj => ?_⟩
  rw [upd_other _ _ (by omega)]
  exact h.all j (by omega)

theorem below_two {w w1 w2 : World} (h : Below w.heap.size w w1) (g : Below w1.heap.size w1 w2) : Below w.heap.size w w2 := h.trans (g.mono h.size)

set_option maxRecDepth 100000 in
set_option maxHeartbeats 1000000 in
theorem full_any (which : Int) (hw : -9223372036854775808 ≤ which ∧ which ≤ 9223372036854775807) (w : World) :
    Calls Try.prog 3 #[.int .i64 which] w fun e w' => e = .returned (.bool true) ∧ Below w.heap.size w w' := by
  have HW := Lib.hid hw
  clear hw
  go_enter Try.func3, Try.ntmps3
  go_wp2_with fail
  refine (shown_any w).mono ?_
  rintro e w1 ⟨rfl, hb⟩
  have HB1 := Lib.hid hb
  clear hb
  go_wp2_with fail
  refine (new_ok _ _ _ _ (by decide +kernel)).mono ?_
  rintro e w2 ⟨t, b, mp, rfl, hown⟩
  have H1 := Lib.hid hown
  clear hown
  go_wp2_with fail
  go_loopw [5] (fun i wr => ∃ (k : Nat) (S : Tab), i = .int .i64 k ∧ 2 ≤ k ∧ k ≤ 201 ∧ FullTo S k ∧ Own w1.heap.size w1 wr t S) (fun i _ => 201 - (intOf i).toNat)
  case atStart =>
    refine ⟨2, _, rfl, by omega, by omega, ⟨fun k h1 h2 => ?_, fun k hk => ?_⟩, H1.out⟩
    · obtain rfl : k = 1 := by omega
      exact ⟨b, _, rfl, fun h => by omega⟩
    · rw [upd_other _ _ (by omega)]
  case round =>
    obtain ⟨k, S, rfl, hk1, hk2, hf, ho⟩ := hrel
    have HF := Lib.hid hf
    have HO := Lib.hid ho
    clear hf ho
    by_cases hlt : k ≤ 200
    · have hlt1 : (k : Int) ≤ 200 := by omega
      go_wp2_with fail
      refine (make_file HO.out.rep (k - 1) (HF.out.free hk1 hlt) _ _ _ _ (by decide +kernel)).mono ?_
      rintro e w3 ⟨b3, mp3, he, hmv⟩
      have e1 : ((k - 1 : Nat) : Int) + 1 = k := by omega
      rw [e1] at he
      subst he
      have HM := Lib.hid hmv
      clear hmv e1
      have hkk : ((k : Int) != k) = false := by simp
      go_wp2
      go_roundw
      case rel => exact ⟨k + 1, _, by go_num, by omega, by omega, HF.out.next rfl rfl rfl (by omega), HO.out.mv HM.out⟩
      case measure => simp [intOf]; omega
    · obtain rfl : k = 201 := by omega
      go_wp2_with fail
      refine (make_full HO.out.rep HF.out.all _ _ _ _ (by decide +kernel)).mono ?_
      rintro e w3 ⟨rfl, hmv⟩
      have H3 := Lib.hid (HO.out.mv hmv)
      clear hmv
      by_cases hneg : which < 0
      · obtain ⟨j, hj, hj2, hj3⟩ : ∃ j : Nat, wrap64 (2 + (wrap64 (-(which + 1))).tmod 199) = j ∧ 2 ≤ j ∧ j ≤ 200 := by
          have h0 := HW.out
          have hw1 : wrap64 (-(which + 1)) = -(which + 1) := IntWalk.wrap64_in _ (by omega)
          have ht : (-(which + 1)).tmod 199 = (-(which + 1)) % 199 := Int.tmod_eq_emod_of_nonneg (by omega)
          have hw2 : wrap64 (2 + (-(which + 1)) % 199) = 2 + (-(which + 1)) % 199 := IntWalk.wrap64_in _ (by omega)
          exact ⟨(2 + (-(which + 1)) % 199).toNat, by rw [hw1, ht, hw2]; omega, by omega, by omega⟩
        have hw1 : wrap64 (which + 1) = which + 1 := IntWalk.wrap64_in _ (by have := HW.out; omega)
        go_wp2_with fail
        rw [hj]
        clear hw1 hneg
        have HJ := Lib.hid (And.intro hj2 hj3)
        have hjj : ((j : Int) == j) = true := by simp
        clear hj hj2 hj3
        obtain ⟨bk, nk, hk, hkk⟩ := HF.out.1 j (by have := HJ.out; omega) (by have := HJ.out; omega)
        have HK := Lib.hid hk
        have HN := Lib.hid (hkk HJ.out.1)
        clear hk hkk
        refine (drop_free H3.out.rep j HK.out HN.out.2.1 (by rw [HN.out.1]; decide) (by have := H3.out.rep.ino j bk nk HK.out; have := HJ.out; omega) HN.out.2.2).mono ?_
        rintro e w4 ⟨rfl, hmv⟩
        have H4 := Lib.hid (H3.out.mv hmv)
        clear hmv
        go_wp2_with fail
        refine (stat_none H4.out.rep j (upd_same ..)).mono ?_
        rintro e w5 ⟨he, hb⟩
        replace he : e = .returned (.tuple #[.agg #[.int .i64 0, .int .i64 0, .int .i64 0, .int .i64 0, .int .i64 0, .int .i64 0, .int .i64 0, .int .i64 0], .bool false]) := he
        subst he
        have H5 := Lib.hid ((H4.out.mv ((Mv.refl H4.out.rep).below hb)).mv ((Mv.refl ((Mv.refl H4.out.rep).below hb).rep).alloc (.cells #[.int .i64 0, .int .i64 0, .int .i64 0, .int .i64 0, .int .i64 0, .int .i64 0, .int .i64 0, .int .i64 0] 30)))
        clear hb
        go_wp2_with fail
        refine (make_dir H5.out.rep (j - 1) (HF.out.refree j HJ.out.1 HJ.out.2) _ _ _ _ (by decide +kernel)).mono ?_
        rintro e w6 ⟨b6, mp6, he, hmv⟩
        have e1 : ((j - 1 : Nat) : Int) + 1 = j := by have := HJ.out; omega
        rw [e1] at he
        subst he
        have H6 := Lib.hid (H5.out.mv hmv)
        clear hmv e1
        go_wp2
        go_ret
        exact ⟨rfl, below_two HB1.out H6.out.below⟩
      · have hx0 : 0 ≤ which := by omega
        obtain ⟨j, hj, hj2, hj3⟩ : ∃ j : Nat, 2 + which % 199 = j ∧ 2 ≤ j ∧ j ≤ 200 := ⟨(2 + which % 199).toNat, by omega, by omega, by omega⟩
        have HJ0 := Lib.hid hj
        clear hj
        go_wp2_with fail
        have hj := HJ0.out
        rw [hj]
        clear HJ0
        have HJ := Lib.hid (And.intro hj2 hj3)
        have hjj : ((j : Int) == j) = true := by simp
        clear hj hj2 hj3
        obtain ⟨bk, nk, hk, hkk⟩ := HF.out.1 j (by have := HJ.out; omega) (by have := HJ.out; omega)
        have HK := Lib.hid hk
        have HN := Lib.hid (hkk HJ.out.1)
        clear hk hkk
        refine (drop_free H3.out.rep j HK.out HN.out.2.1 (by rw [HN.out.1]; decide) (by have := H3.out.rep.ino j bk nk HK.out; have := HJ.out; omega) HN.out.2.2).mono ?_
        rintro e w4 ⟨rfl, hmv⟩
        have H4 := Lib.hid (H3.out.mv hmv)
        clear hmv
        go_wp2_with fail
        refine (stat_none H4.out.rep j (upd_same ..)).mono ?_
        rintro e w5 ⟨he, hb⟩
        replace he : e = .returned (.tuple #[.agg #[.int .i64 0, .int .i64 0, .int .i64 0, .int .i64 0, .int .i64 0, .int .i64 0, .int .i64 0, .int .i64 0], .bool false]) := he
        subst he
        have H5 := Lib.hid ((H4.out.mv ((Mv.refl H4.out.rep).below hb)).mv ((Mv.refl ((Mv.refl H4.out.rep).below hb).rep).alloc (.cells #[.int .i64 0, .int .i64 0, .int .i64 0, .int .i64 0, .int .i64 0, .int .i64 0, .int .i64 0, .int .i64 0] 30)))
        clear hb
        go_wp2_with fail
        refine (make_dir H5.out.rep (j - 1) (HF.out.refree j HJ.out.1 HJ.out.2) _ _ _ _ (by decide +kernel)).mono ?_
        rintro e w6 ⟨b6, mp6, he, hmv⟩
        have e1 : ((j - 1 : Nat) : Int) + 1 = j := by have := HJ.out; omega
        rw [e1] at he
        subst he
        have H6 := Lib.hid (H5.out.mv hmv)
        clear hmv e1
        go_wp2
        go_ret
        exact ⟨rfl, below_two HB1.out H6.out.below⟩
end Go.Proofs.Ytinmdegmnepheaa
