/- Whole: what is taken is written so. -/
import Derived.Test.YtmfbmjnoepcigaaDoorQ
namespace Go.Proofs.YtmfbmjnoepcigaaDoor
open Go.RowKit

theorem parseL_err : ∀ (k : Nat) (t : Bytes) (L : List UserS) (n m : Nat) (e : Int), t.length ≤ k → parseL L n t = .error (m, e) → n ≤ m ∧ (e = 17 ∨ e = 5 ∨ e = 12)
  | k, t, L, n, m, e, hk, h => by
    by_cases ht : t = []
    · subst ht; rw [parseL_nil] at h; cases h
    · rw [parseL, dif_neg ht] at h
      cases hr : readO (lineOf t) with
      | none => rw [hr] at h; cases h; exact ⟨Nat.le_refl _, .inl rfl⟩
      | some u =>
        rw [hr] at h
        simp only at h
        split at h
        · cases h; exact ⟨Nat.le_refl _, .inl rfl⟩
        · split at h
          · cases h; exact ⟨Nat.le_refl _, .inr (.inl rfl)⟩
          · split at h
            · cases h; exact ⟨Nat.le_refl _, .inr (.inr rfl)⟩
            · have hlt := restOf_lt ht
              match k, hk with
              | 0, hk => exact absurd (List.length_eq_zero_iff.1 (by omega)) ht
              | k + 1, hk =>
                obtain ⟨h1, h2⟩ := parseL_err k _ _ _ _ _ (by omega) h
                exact ⟨by omega, h2⟩
theorem parse_cases (t : Bytes) : (4096 < t.length ∧ parseR t = ([], 0, 10)) ∨ (∃ n e, 1 ≤ n ∧ (e = 17 ∨ e = 5 ∨ e = 12) ∧ parseR t = ([], n, e)) ∨ (∃ L, t.length ≤ 4096 ∧ parseL [] 1 t = .ok L ∧ parseR t = (L, 0, 0)) := by
  by_cases h : 4096 < t.length
  · exact .inl ⟨h, parse_long h⟩
  · cases hp : parseL [] 1 t with
    | ok L => exact .inr (.inr ⟨L, by omega, rfl, parse_ok h hp⟩)
    | error p =>
      obtain ⟨n, e⟩ := p
      obtain ⟨h1, h2⟩ := parseL_err t.length t [] 1 n e (Nat.le_refl _) hp
      exact .inr (.inl ⟨n, e, h1, h2, parse_err h hp⟩)
theorem may_sz {u : UserS} (h : mayB u = true) : SzU u := by
  have hl := line_len h
  unfold lineB at hl
  simp only [List.length_append, List.length_cons] at hl
  have h1 := sz u.name
  have h2 := sz u.pass
  have h3 := sz u.home
  have h4 := sz u.shell
  exact ⟨by omega, by omega, by omega, by omega⟩
theorem print_of {s : ByteArray} {L : List UserS} (h : RightU L) (hp : printB L = s.data.toList) : printS L = s := by
  unfold printS
  rw [if_pos ((rightB_iff L).2 h), hp]
/-- The text twice. -/
theorem twice_cases {s : ByteArray} {L : List UserS} (h : parseL [] 1 s.data.toList = .ok L) : (s.size = 0 ∧ parseR (s ++ s).data.toList = ([], 0, 0)) ∨ (s.size ≠ 0 ∧ 4096 < 2 * s.size ∧ parseR (s ++ s).data.toList = ([], 0, 10)) ∨ (s.size ≠ 0 ∧ 2 * s.size ≤ 4096 ∧ parseR (s ++ s).data.toList = ([], L.length + 1, 5)) := by
  have e : (s ++ s).data.toList = s.data.toList ++ s.data.toList := by rw [ByteArray.data_append, Array.toList_append]
  have hl : (s.data.toList ++ s.data.toList).length = 2 * s.size := by rw [List.length_append, sz]; omega
  rw [e]
  by_cases h0 : s.size = 0
  · have hn : s.data.toList = [] := List.length_eq_zero_iff.1 (by rw [sz]; exact h0)
    exact .inl ⟨h0, by rw [hn]; exact parse_ok (by simp) (parseL_nil _ _)⟩
  · by_cases h1 : 4096 < 2 * s.size
    · exact .inr (.inl ⟨h0, h1, parse_long (by rw [hl]; exact h1)⟩)
    · refine .inr (.inr ⟨h0, by omega, parse_err (by rw [hl]; exact h1) (parse_twice h fun hh => h0 ?_)⟩)
      rw [← sz, hh]; rfl
set_option maxHeartbeats 4000000 in
set_option maxRecDepth 100000 in
theorem whole_law (s : ByteArray) (w : World) (hW : HasW w) : Calls Tryd.prog 3 #[.string s] w fun e w' => e = .returned (.bool true) ∧ Below w.heap.size w w' := by
  have HW := Lib.hid hW
  have HS := Lib.hid (shown_any w hW)
  clear hW
  go_enter Tryd.func3, Tryd.ntmps3
  go_wp2_with fail
  refine HS.out.mono ?_
  rintro e w1 ⟨rfl, hb⟩
  have HB1 := Lib.hid hb
  clear hb HS
  have HP := Lib.hid (parse_any s w1 (HW.out.below HB1.out))
  go_wp2_with fail
  refine HP.out.mono ?_
  rintro e w2 ⟨v, rfl, ho, hb⟩
  have HB2 := Lib.hid (HB1.out.trans (hb.mono HB1.out.size))
  clear hb HP
  rcases parse_cases s.data.toList with ⟨hlen, hr⟩ | ⟨n, er, hn, her, hr⟩ | ⟨L, hlen, hp, hr⟩
  · rw [hr] at ho
    rw [hr]
    obtain ⟨a, c, rfl⟩ := ho.form
    have hl1 : (4096 : Int) < s.size := by rw [sz] at hlen; omega
    clear hlen hr ho
    go_wp2
    go_ret
    exact ⟨rfl, HB2.out⟩
  · rw [hr] at ho
    rw [hr]
    obtain ⟨a, c, rfl⟩ := ho.form
    have hn1 : (0 : Int) < n := by omega
    clear hn hr ho
    rcases her with rfl | rfl | rfl
    · go_wp2
      go_ret
      exact ⟨rfl, HB2.out⟩
    · go_wp2
      go_ret
      exact ⟨rfl, HB2.out⟩
    · go_wp2
      go_ret
      exact ⟨rfl, HB2.out⟩
  · rw [hr] at ho
    rw [hr]
    have HO := Lib.hid ho
    have hlen' : s.size ≤ 4096 := by rw [sz] at hlen; exact hlen
    obtain ⟨hR, hpr⟩ := parse_is 1 hp
    have HTW := Lib.hid (twice_cases hp)
    have HRU := Lib.hid hR
    have HPR := Lib.hid (print_of hR hpr)
    have HSZ := Lib.hid (fun u hu => may_sz (hR.may u hu))
    have HLEN := Lib.hid hlen'
    clear hr ho hlen hlen' hp hR hpr
    obtain ⟨a, c, rfl⟩ := HO.out.form
    have HC := Lib.hid (print_any _ L w2 (own_inU HO.out) (by have := HRU.out.len; omega) HSZ.out (HW.out.below HB2.out))
    rw [HPR.out] at HC
    go_wp2_with fail
    refine HC.out.mono ?_
    rintro e w3 ⟨rfl, hb⟩
    have HB3 := Lib.hid (HB2.out.trans (hb.mono HB2.out.size))
    have HO3 := Lib.hid (HO.out.grown hb)
    clear hb HC HO
    have HC := Lib.hid (right_any _ L w3 (own_inU HO3.out) (by have := HRU.out.len; omega) HSZ.out)
    rw [(rightB_iff L).2 HRU.out] at HC
    go_wp2_with fail
    refine HC.out.mono ?_
    rintro e w4 ⟨rfl, hb⟩
    have HB4 := Lib.hid (HB3.out.trans (hb.mono HB3.out.size))
    clear hb HC HO3
    have HC := Lib.hid (parse_any (s ++ s) w4 (HW.out.below HB4.out))
    have hs1 : (s.size : Int) ≤ 4096 := by have := HLEN.out; omega
    go_wp2_with fail
    refine HC.out.mono ?_
    rintro e w5 ⟨v5, rfl, ho, hb⟩
    have HB5 := Lib.hid (HB4.out.trans (hb.mono HB4.out.size))
    clear hb HC
    have he := emp_iff s
    rcases HTW.out with ⟨h0, hr⟩ | ⟨h0, h2, hr⟩ | ⟨h0, h2, hr⟩
    · rw [hr] at ho
      rw [hr]
      obtain ⟨a5, c5, rfl⟩ := ho.form
      rw [decide_eq_true h0] at he
      clear h0 hr ho
      go_wp2
      go_ret
      exact ⟨rfl, HB5.out⟩
    · rw [hr] at ho
      rw [hr]
      obtain ⟨a5, c5, rfl⟩ := ho.form
      rw [decide_eq_false h0] at he
      have hlen := HLEN.out
      have hw2 : wrap64 (2 * (s.size : Int)) = 2 * (s.size : Int) := by unfold wrap64; omega
      have h21 : (4096 : Int) < 2 * (s.size : Int) := by omega
      clear h0 hr ho hlen h2
      go_wp2
      go_ret
      exact ⟨rfl, HB5.out⟩
    · rw [hr] at ho
      rw [hr]
      obtain ⟨a5, c5, rfl⟩ := ho.form
      rw [decide_eq_false h0] at he
      have hlen := HLEN.out
      have hw2 : wrap64 (2 * (s.size : Int)) = 2 * (s.size : Int) := by unfold wrap64; omega
      have h21 : ¬ (4096 : Int) < 2 * (s.size : Int) := by omega
      have hL8 := HRU.out.len
      have hw3 : wrap64 ((L.length : Int) + 1) = (L.length : Int) + 1 := by unfold wrap64; omega
      clear h0 hr ho hlen h2 hL8
      go_wp2
      go_ret
      exact ⟨rfl, HB5.out⟩
end Go.Proofs.YtmfbmjnoepcigaaDoor
