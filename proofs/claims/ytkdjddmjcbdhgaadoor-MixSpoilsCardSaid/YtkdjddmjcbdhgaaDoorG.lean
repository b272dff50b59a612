/- The document's Right and Matches. -/
import Derived.Test.YtkdjddmjcbdhgaaDoorF
namespace Go.Proofs.YtkdjddmjcbdhgaaDoor
open Go.RowKit

def BoolPost (P : Prop) (w : World) (e : Ending) (w' : World) : Prop := ∃ r : Bool, e = .returned (.bool r) ∧ (r = true ↔ P) ∧ Below w.heap.size w w'

theorem rright_any (f : ByteArray) (w : World) (hf : f.size ≤ 140737488351232) : Calls Tryd.prog 15 #[.string f] w (BoolPost (RightP f) w) := by
  by_cases h0 : f.data.toList = []
  · have h1 := (emp_iff f).2 h0
    have H0 := Lib.hid h0
    clear h0
    go_enter Tryd.func15, Tryd.ntmps15
    go_wp2
    go_ret
    exact ⟨true, rfl, ⟨fun _ => .inl H0.out, fun _ => rfl⟩, Below.refl _ _⟩
  · have h1 : f.toList.isEmpty = false := emp_no h0
    have H0 := Lib.hid h0
    clear h0
    by_cases h4 : f.data.toList = [42]
    · have h5 : (f.toList == [42]) = true := by rw [toList_data, beq_iff_eq]; exact h4
      have H4 := Lib.hid h4
      clear h4 h1
      have h1 : f.toList.isEmpty = false := emp_no H0.out
      go_enter Tryd.func15, Tryd.ntmps15
      go_wp2
      go_ret
      exact ⟨true, rfl, ⟨fun _ => .inr (.inl H4.out), fun _ => rfl⟩, Below.refl _ _⟩
    · have h5 : (f.toList == [42]) = false := by
        cases hh : f.toList == [42] with
        | false => rfl
        | true => rw [toList_data, beq_iff_eq] at hh; exact absurd hh h4
      have H4 := Lib.hid h4
      clear h4
      go_enter Tryd.func15, Tryd.ntmps15
      go_wp2_with (go_at_call 21; refine (ris_any f _ hf).mono ?_; rintro e w' ⟨r, rfl, hr, rfl⟩)
      go_ret
      exact ⟨r, rfl, hr.trans ⟨fun h => .inr (.inr h), fun h => by
        rcases h with h | h | h
        · exact absurd h H0.out
        · exact absurd h H4.out
        · exact h⟩, Below.refl _ _⟩

set_option maxHeartbeats 1000000 in
theorem rmatches_any (f p : ByteArray) (w : World) (hf : f.size ≤ 140737488351232) (hp : p.size ≤ 2000) : Calls Tryd.prog 17 #[.string f, .string p] w (BoolPost (MatchP f p) w) := by
  by_cases h0 : f.data.toList = []
  · have h1 := (emp_iff f).2 h0
    have H0 := Lib.hid h0
    clear h0
    by_cases hp0 : p.data.toList = []
    · have hp1 := (emp_iff p).2 hp0
      have HP0 := Lib.hid hp0
      clear hp0
      go_enter Tryd.func17, Tryd.ntmps17
      go_wp2
      go_ret
      exact ⟨true, rfl, ⟨fun _ => .inl ⟨H0.out, HP0.out⟩, fun _ => rfl⟩, Below.refl _ _⟩
    · have hp1 : p.toList.isEmpty = false := emp_no hp0
      have HP0 := Lib.hid hp0
      clear hp0
      go_enter Tryd.func17, Tryd.ntmps17
      go_wp2
      go_ret
      exact ⟨false, rfl, ⟨fun h => Bool.noConfusion h, fun h => by
        rcases h with ⟨_, h⟩ | ⟨h, _⟩
        · exact absurd h HP0.out
        · rw [H0.out] at h
          obtain ⟨x, y, he, -⟩ := h
          simp at he⟩, Below.refl _ _⟩
  · have h1 : f.toList.isEmpty = false := emp_no h0
    have H0 := Lib.hid h0
    clear h0
    go_enter Tryd.func17, Tryd.ntmps17
    go_wp2_with fail
    refine (ris_any f _ hf).mono ?_
    rintro e w' ⟨r, rfl, hr, rfl⟩
    have HR := Lib.hid hr
    clear hr
    cases r with
    | false =>
      go_wp2
      go_ret
      exact ⟨false, rfl, ⟨fun h => Bool.noConfusion h, fun h => by
        rcases h with ⟨h, _⟩ | ⟨h, _⟩
        · exact absurd h H0.out
        · exact absurd (HR.out.2 h) (by simp)⟩, Below.refl _ _⟩
    | true =>
      have hF := (isField_iff _).1 (HR.out.1 (by simp))
      have hsz : f.size = 21 := by rw [← sz]; exact hF.1
      have HF := Lib.hid hF
      have HS := Lib.hid hsz
      clear hF hsz
      go_wp2
      go_loopw [6, 7] (fun vs vi wr => ∃ (k acc : Nat) (a : Int), vs = .int .i64 a ∧ vi = .int .i64 k ∧ k ≤ 4 ∧ wr = w' ∧ Hid (a = (acc : Int) ∧ acc = readN (f.data.toList.take k) ∧ acc < 16 ^ k)) (fun vs vi _ => 4 - (intOf vi).toNat)
      case atStart => exact ⟨0, 0, 0, rfl, rfl, by omega, rfl, Lib.hid ⟨rfl, rfl, by decide⟩⟩
      case round =>
        obtain ⟨k, acc, a, rfl, rfl, hk, rfl, HA⟩ := hrel
        by_cases hlt : k < 4
        · have hlt1 : (k : Int) < 4 := by omega
          have hks : k < f.size := by have := HS.out; omega
          have hks1 : (k : Int) < f.size := by omega
          have hx : isHex f[k] = true := HF.out.2.2 k _ (by omega) (by omega) (get_data f k hks)
          have hv := val_lt hx
          have hacc3 : acc < 4096 := by
            have h16 : 16 ^ k ≤ 16 ^ 3 := Nat.pow_le_pow_right (by decide) (by omega)
            have := HA.out.2.2
            omega
          have htk : f.data.toList.take (k + 1) = f.data.toList.take k ++ [f[k]] := by
            rw [List.take_succ_eq_append_getElem (by rw [sz]; exact hks)]; rfl
          have HN : Hid (16 * a + ((val f[k] : Nat) : Int) = ((16 * acc + val f[k] : Nat) : Int) ∧ 16 * acc + val f[k] = readN (f.data.toList.take (k + 1)) ∧ 16 * acc + val f[k] < 16 ^ (k + 1)) :=
            Lib.hid ⟨by rw [HA.out.1]; omega, by rw [htk, readN_app, ← HA.out.2.1], by have := HA.out.2.2; rw [Nat.pow_succ]; omega⟩
          have a0 : 0 ≤ a := by rw [HA.out.1]; omega
          have a1 : a ≤ 4095 := by rw [HA.out.1]; omega
          have hv1 : ((val f[k] : Nat) : Int) ≤ 15 := by omega
          have HX := Lib.hid hx
          clear hx hv hacc3 htk
          go_wp2_with (go_at_call 22; refine (rdigit_any _ _).mono ?_; rintro e w2 ⟨he, rfl⟩; rw [if_pos HX.out] at he; subst he)
          go_roundw
          case rel => exact ⟨k + 1, _, _, rfl, by go_num, by omega, trivial, HN⟩
          case measure => simp [intOf]; omega
        · have hlt1 : ¬ (k : Int) < 4 := by omega
          have hA : a = ((readN (f.data.toList.take 4) : Nat) : Int) := by rw [HA.out.1, HA.out.2.1, show k = 4 by omega]
          subst hA
          have HFi := Lib.hid (HR.out.1 (by simp))
          have HM : Hid (MatchP f p ↔ (f.data.toList = [] ∧ p.data.toList = []) ∨ (isField f.data.toList ∧ FS (readN (f.data.toList.take 4) : Nat) p = f.data.toList)) := Lib.hid Iff.rfl
          clear HA
          generalize readN (f.data.toList.take 4) = R at *
          go_wp2_with fail
          refine (rfield_any R p _ hp).mono ?_
          rintro e w2 ⟨s, hs, rfl, hb2⟩
          have HS2 := Lib.hid hs
          have HB2 := Lib.hid hb2
          clear hs hb2
          go_wp2
          go_ret
          refine ⟨_, rfl, ?_, HB2.out⟩
          rw [toList_data, toList_data, beq_iff_eq, HS2.out, HM.out]
          constructor
          · exact fun h => .inr ⟨HFi.out, h⟩
          · rintro (⟨h, _⟩ | ⟨_, h⟩)
            · exact absurd h H0.out
            · exact h
end Go.Proofs.YtkdjddmjcbdhgaaDoor
