/- The document's Right of a password's field. -/
import Derived.Test.YtmfbmjnoepcigaaGreatDoorMe
namespace Go.Proofs.YtmfbmjnoepcigaaGreatDoor.Mx
open Go.RowKit

theorem rdigit_any (c : UInt8) (w : World) : Calls Tryz.prog 85 #[.int .u8 (c.toNat : Int)] w fun e w' => e = .returned (.int .i64 (if isHex c then (val c : Int) else -1)) ∧ w' = w := by
  by_cases hx : isHex c = true
  · rw [if_pos hx]
    rcases hex_kind hx with ⟨h1, h2, h3⟩ | ⟨h1, h2, h3⟩
    · have d1 : (48 : Int) ≤ c.toNat := by omega
      have d2 : (c.toNat : Int) ≤ 57 := by omega
      have h4 : (val c : Int) = (c.toNat : Int) - 48 := by omega
      rw [h4]
      clear hx h1 h2 h3 h4
      go_enter Tryz.func85, Tryz.ntmps85
      go_wp2
      go_ret
      exact ⟨rfl, rfl⟩
    · have d1 : (97 : Int) ≤ c.toNat := by omega
      have d2 : (c.toNat : Int) ≤ 102 := by omega
      have h4 : (val c : Int) = (c.toNat : Int) - 97 + 10 := by omega
      rw [h4]
      clear hx h1 h2 h3 h4
      go_enter Tryz.func85, Tryz.ntmps85
      go_wp2
      go_ret
      exact ⟨rfl, rfl⟩
  · rw [if_neg hx]
    have hx2 := hx
    unfold isHex at hx2
    simp at hx2
    by_cases h1 : c.toNat < 48
    · have d1 : (c.toNat : Int) < 48 := by omega
      clear hx hx2 h1
      go_enter Tryz.func85, Tryz.ntmps85
      go_wp2
      go_ret
      exact ⟨rfl, rfl⟩
    · by_cases h2 : c.toNat < 97
      · have d1 : (57 : Int) < c.toNat := by have := hx2.1 (by omega); omega
        have d2 : (c.toNat : Int) < 97 := by omega
        clear hx hx2 h1 h2
        go_enter Tryz.func85, Tryz.ntmps85
        go_wp2
        go_ret
        exact ⟨rfl, rfl⟩
      · have d1 : (102 : Int) < c.toNat := by have := hx2.2 (by omega); omega
        clear hx hx2 h1 h2
        go_enter Tryz.func85, Tryz.ntmps85
        go_wp2
        go_ret
        exact ⟨rfl, rfl⟩

theorem isField_iff (l : Bytes) : isField l ↔ l.length = 21 ∧ l[4]? = some 36 ∧ ∀ i c, i < 21 → i ≠ 4 → l[i]? = some c → isHex c = true := by
  constructor
  · rintro ⟨h, t, rfl, h1, h2, h3, h4⟩
    refine ⟨by simp [h1, h2], by rw [List.getElem?_append_right (by omega), h1]; rfl, fun i c hi hn hc => ?_⟩
    by_cases hlt : i < 4
    · rw [List.getElem?_append_left (by omega)] at hc
      exact List.all_eq_true.1 h3 _ (List.mem_of_getElem? hc)
    · rw [List.getElem?_append_right (by omega), h1] at hc
      obtain ⟨m, rfl⟩ : ∃ m, i = m + 5 := ⟨i - 5, by omega⟩
      rw [show m + 5 - 4 = m + 1 by omega, List.getElem?_cons_succ] at hc
      exact List.all_eq_true.1 h4 _ (List.mem_of_getElem? hc)
  · rintro ⟨h1, h2, h3⟩
    have h4 : 4 < l.length := by omega
    have he : l = l.take 4 ++ l[4] :: l.drop 5 := by
      conv => lhs; rw [← List.take_append_drop 4 l]
      rw [List.drop_eq_getElem_cons h4]
    have h5 : l[4] = 36 := by rw [List.getElem?_eq_getElem h4] at h2; exact Option.some.inj h2
    rw [h5] at he
    refine ⟨l.take 4, l.drop 5, he, by rw [List.length_take]; omega, by rw [List.length_drop]; omega, ?_, ?_⟩
    · refine List.all_eq_true.2 fun x hx => ?_
      obtain ⟨i, hi, hg⟩ := List.getElem_of_mem hx
      rw [List.getElem_take] at hg
      have hi4 : i < 4 := by rw [List.length_take] at hi; omega
      exact h3 i x (by omega) (by omega) (by rw [List.getElem?_eq_getElem (by omega), hg])
    · refine List.all_eq_true.2 fun x hx => ?_
      obtain ⟨i, hi, hg⟩ := List.getElem_of_mem hx
      rw [List.getElem_drop] at hg
      have hi4 : i < 16 := by rw [List.length_drop] at hi; omega
      exact h3 (5 + i) x (by omega) (by omega) (by rw [List.getElem?_eq_getElem (by omega), hg])
theorem get_data (s : ByteArray) (i : Nat) (h : i < s.size) : s.data.toList[i]? = some s[i] := by
  rw [List.getElem?_eq_getElem (by rw [sz]; exact h)]; rfl

def IsPost (f : ByteArray) (w : World) (e : Ending) (w' : World) : Prop := ∃ r : Bool, e = .returned (.bool r) ∧ (r = true ↔ isField f.data.toList) ∧ w' = w
set_option maxHeartbeats 1000000 in
theorem ris_any (f : ByteArray) (w : World) (hf : f.size ≤ 140737488351232) :
    Calls Tryz.prog 56 #[.string f] w (IsPost f w) := by
  have hI := Lib.hid (isField_iff f.data.toList)
  by_cases hl : f.size = 21
  · have h4 : (4 : Int) < f.size := by omega
    have h4n : 4 < f.size := by omega
    have HL := Lib.hid hl
    have H4 := Lib.hid (get_data f 4 h4n)
    have hz : (f.size : Int) = 21 := by omega
    clear hl
    by_cases hc : f[4] = 36
    · have hc1 : (f[4].toNat : Int) = 36 := by rw [hc]; rfl
      have HC := Lib.hid hc
      clear hc
      go_enter Tryz.func56, Tryz.ntmps56
      go_wp2
      go_loopw [3] (fun i wr => ∃ k : Nat, k ≤ 21 ∧ i = .int .i64 k ∧ wr = w ∧ Hid (∀ j c, j < k → j ≠ 4 → f.data.toList[j]? = some c → isHex c = true)) (fun i _ => 21 - (intOf i).toNat)
      case atStart => exact ⟨0, by omega, rfl, rfl, Lib.hid fun j c h => by omega⟩
      case round =>
        obtain ⟨k, hk, rfl, rfl, HK⟩ := hrel
        by_cases hlt : k < 21
        · have hlt1 : (k : Int) < 21 := by omega
          have hks : k < f.size := by have := HL.out; omega
          have hks1 : (k : Int) < f.size := by omega
          by_cases hk4 : k = 4
          · have hk41 : (k : Int) = 4 := by omega
            have HK4 := Lib.hid hk4
            clear hk4
            go_wp2
            go_roundw
            case rel => exact ⟨5, by omega, rfl, trivial, Lib.hid fun j c hj hn hc => HK.out j c (by have := HK4.out; omega) hn hc⟩
            case measure => have := HK4.out; simp [intOf]; omega
          · have hk41 : ¬ (k : Int) = 4 := by omega
            have HK4 := Lib.hid hk4
            clear hk4
            have HG := Lib.hid (get_data f k hks)
            by_cases hx : isHex f[k] = true
            · have hv : ¬ ((val f[k] : Nat) : Int) < 0 := by omega
              go_wp2_with (go_at_call 85; refine (rdigit_any _ _).mono ?_; rintro e w2 ⟨he, rfl⟩; rw [if_pos hx] at he; subst he)
              go_roundw
              case rel => exact ⟨k + 1, by omega, by go_num, trivial, Lib.hid fun j c hj hn hc => by
                by_cases hjk : j = k
                · subst hjk
                  rw [HG.out] at hc
                  rw [← Option.some.inj hc]; exact hx
                · exact HK.out j c (by omega) hn hc⟩
              case measure => simp [intOf]; omega
            · go_wp2_with (go_at_call 85; refine (rdigit_any _ _).mono ?_; rintro e w2 ⟨he, rfl⟩; rw [if_neg hx] at he; subst he)
              go_ret
              exact ⟨false, rfl, ⟨fun h => Bool.noConfusion h, fun h => absurd ((hI.out.1 h).2.2 k _ hlt HK4.out HG.out) hx⟩, rfl⟩
        · have hlt1 : ¬ (k : Int) < 21 := by omega
          go_wp2
          go_ret
          refine ⟨true, rfl, ⟨fun _ => hI.out.2 ⟨by rw [sz]; exact HL.out, by rw [H4.out, HC.out], fun j c hj => HK.out j c (by omega)⟩, fun _ => rfl⟩, rfl⟩
    · have hc1 : ¬ (f[4].toNat : Int) = 36 := fun h => hc (by apply UInt8.toNat_inj.1; show f[4].toNat = 36; omega)
      have HC := Lib.hid hc
      clear hc
      go_enter Tryz.func56, Tryz.ntmps56
      go_wp2
      go_ret
      refine ⟨false, rfl, ⟨fun h => Bool.noConfusion h, fun h => ?_⟩, rfl⟩
      have := (hI.out.1 h).2.1
      rw [H4.out] at this
      exact absurd (Option.some.inj this) HC.out
  · have hz : ¬ (f.size : Int) = 21 := by omega
    have HL := Lib.hid hl
    clear hl
    go_enter Tryz.func56, Tryz.ntmps56
    go_wp2
    go_ret
    exact ⟨false, rfl, ⟨fun h => Bool.noConfusion h, fun h => absurd (by rw [← sz]; exact (hI.out.1 h).1) HL.out⟩, rfl⟩
def BoolPost (P : Prop) (w : World) (e : Ending) (w' : World) : Prop := ∃ r : Bool, e = .returned (.bool r) ∧ (r = true ↔ P) ∧ Below w.heap.size w w'
theorem rright_any (f : ByteArray) (w : World) (hf : f.size ≤ 140737488351232) : Calls Tryz.prog 42 #[.string f] w (BoolPost (RightP f) w) := by
  by_cases h0 : f.data.toList = []
  · have h1 := (emp_iff f).2 h0
    have H0 := Lib.hid h0
    clear h0
    go_enter Tryz.func42, Tryz.ntmps42
    go_wp2
    go_ret
    exact ⟨true, rfl, ⟨fun _ => .inl H0.out, fun _ => rfl⟩, Below.refl _ _⟩
  · have h1 : f.toList.isEmpty = false := emp_no h0
    have H0 := Lib.hid h0
    clear h0
    by_cases h4 : f.data.toList = [42]
    · have h5 : (f.toList == [42]) = true := by rw [toList_data, beq_iff_eq]; exact h4
      have H4 := Lib.hid h4
      clear h4 h1
      have h1 : f.toList.isEmpty = false := emp_no H0.out
      go_enter Tryz.func42, Tryz.ntmps42
      go_wp2
      go_ret
      exact ⟨true, rfl, ⟨fun _ => .inr (.inl H4.out), fun _ => rfl⟩, Below.refl _ _⟩
    · have h5 : (f.toList == [42]) = false := by
        cases hh : f.toList == [42] with
        | false => rfl
        | true => rw [toList_data, beq_iff_eq] at hh; exact absurd hh h4
      have H4 := Lib.hid h4
      clear h4
      go_enter Tryz.func42, Tryz.ntmps42
      go_wp2_with (go_at_call 56; refine (ris_any f _ hf).mono ?_; rintro e w' ⟨r, rfl, hr, rfl⟩)
      go_ret
      exact ⟨r, rfl, hr.trans ⟨fun h => .inr (.inr h), fun h => by
        rcases h with h | h | h
        · exact absurd h H0.out
        · exact absurd h H4.out
        · exact h⟩, Below.refl _ _⟩

end Go.Proofs.YtmfbmjnoepcigaaGreatDoor.Mx
