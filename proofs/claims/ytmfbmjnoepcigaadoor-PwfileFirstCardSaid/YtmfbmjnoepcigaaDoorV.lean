/- First: the first one counts. -/
import Derived.Test.YtmfbmjnoepcigaaDoorS
namespace Go.Proofs.YtmfbmjnoepcigaaDoor
open Go.RowKit

theorem InU.take {w : World} {a : Option Addr} {c : Nat} {L : List UserS} (h : InU w (.slice a L.length c) L) (k : Nat) : InU w (.slice a (L.take k).length c) (L.take k) := by
  obtain ⟨a', c', hv, hc⟩ := h
  obtain ⟨rfl, rfl⟩ : a = a' ∧ c = c' := by simp at hv; exact ⟨hv.1, hv.2⟩
  refine ⟨a, c, rfl, fun j hj => ?_⟩
  have hj2 : j < L.length := by rw [List.length_take] at hj; omega
  obtain ⟨b, off, hb, h⟩ := hc j hj2
  exact ⟨b, off, hb, fun i hi => by rw [h i hi, List.getElem_take]⟩
theorem findU_snoc (p : UserS → Bool) (f : UserS) : ∀ (l : List UserS) (i : Nat), findU p (l ++ [f]) i = if findU p l i < 0 then (if p f = true then ((i + l.length : Nat) : Int) else -1) else findU p l i
  | [], i => by simp [findU]
  | g :: l, i => by
    rw [List.cons_append, findU, findU]
    by_cases hp : p g = true
    · rw [if_pos hp, if_pos hp, if_neg (by omega)]
    · rw [if_neg hp, if_neg hp]
      have := findU_snoc p f l (i + 1)
      have e : ((i : Int) + 1) = ((i + 1 : Nat) : Int) := by omega
      rw [e, this, List.length_cons]
      rw [show i + 1 + l.length = i + (l.length + 1) by omega]
theorem findU_take {p : UserS → Bool} {L : List UserS} {k : Nat} (hk : k < L.length) : findU p (L.take (k + 1)) 0 = if findU p (L.take k) 0 < 0 then (if p L[k] = true then (k : Int) else -1) else findU p (L.take k) 0 := by
  rw [List.take_succ_eq_append_getElem hk]
  have h := findU_snoc p L[k] (L.take k) 0
  rw [show ((0 : Nat) : Int) = 0 from rfl] at h
  rw [h, List.length_take, Nat.min_eq_left (by omega), Nat.zero_add]
theorem findU_lt (p : UserS → Bool) (L : List UserS) : findU p L 0 = -1 ∨ (0 ≤ findU p L 0 ∧ findU p L 0 < L.length) := by
  rcases findU_cases p L with ⟨h, _⟩ | ⟨k, hk, _, _, h⟩
  · exact .inl h
  · rw [h]; exact .inr ⟨by omega, by omega⟩
theorem findU_none' {p : UserS → Bool} {L : List UserS} (h : ∀ f ∈ L, p f = false) : findU p L 0 = -1 := findU_none L 0 h
theorem findU_first {p : UserS → Bool} {L : List UserS} {k : Nat} (hk : k < L.length) (h1 : p L[k] = true) (h2 : ∀ j (hj : j < k), p (L[j]'(by omega)) = false) : findU p L 0 = k := by
  rcases findU_cases p L with ⟨_, h⟩ | ⟨j, hj, h3, h4, h5⟩
  · rw [h _ (List.getElem_mem hk)] at h1; cases h1
  · rw [h5]
    rcases Nat.lt_trichotomy j k with hl | hl | hl
    · rw [h2 j hl] at h3; cases h3
    · rw [hl]
    · rw [h4 k hl] at h1; cases h1
/-- What was found, as the law asks of it. -/
def FoundQ (p : UserS → Bool) (L : List UserS) (u : UserS) (ok : Bool) : Prop := (ok = true ∧ ∃ k : Nat, ∃ h : k < L.length, L[k] = u ∧ findU p L 0 = k) ∨ (ok = false ∧ findU p L 0 = -1)
theorem found_form {p : UserS → Bool} {L : List UserS} {w w' : World} {e : Ending} (h : FoundP p L w e w') : ∃ (u : UserS) (ok : Bool), e = .returned (.tuple #[.agg (userC u), .bool ok]) ∧ Below w.heap.size w w' ∧ FoundQ p L u ok := by
  obtain ⟨hb, ⟨k, hk, h1, h2, rfl⟩ | ⟨h1, rfl⟩⟩ := h
  · exact ⟨_, true, rfl, hb, .inl ⟨rfl, k, hk, rfl, findU_first hk h1 h2⟩⟩
  · exact ⟨_, false, rfl, hb, .inr ⟨rfl, findU_none' h1⟩⟩
set_option maxHeartbeats 8000000 in
set_option maxRecDepth 100000 in
theorem first_law (a : Option Addr) (c : Nat) (L : List UserS) (x : ByteArray) (id : Int) (w : World) (hF : InU w (.slice a L.length c) L) (hc : L.length ≤ c) (hcm : c ≤ 9223372036854775807) (hW : HasW w) :
    Calls Tryd.prog 5 #[.slice a L.length c, .string x, .int .i64 id] w fun e w' => e = .returned (.bool true) ∧ Below w.heap.size w w' := by
  have HS := Lib.hid (shown_any w hW)
  have HF := Lib.hid hF
  have HC := Lib.hid (And.intro hc hcm)
  clear hF hW hc hcm
  go_enter Tryd.func5, Tryd.ntmps5
  go_wp2_with fail
  refine HS.out.mono ?_
  rintro e w1 ⟨rfl, hb⟩
  have HB1 := Lib.hid hb
  clear hb HS
  go_upto_if 18 with fail
  go_cut [0] from 16 to 20 (fun v0 wx => wx = w1 ∧ ∃ M : List UserS, v0 = .slice a M.length c ∧ M = L.take 100)
  case first =>
    by_cases h : 100 < L.length
    · have h1 : (100 : Int) < L.length := by omega
      have hc1 : (100 : Int) ≤ c := by have := HC.out.1; omega
      have hc2 : (c : Int) ≤ 9223372036854775807 := by have := HC.out.2; omega
      obtain ⟨b, off, rfl, hu⟩ := HF.out.uc HB1.out (k := 0) (by omega)
      have HT : Hid ((100 : Nat) = (L.take 100).length) := Lib.hid (by rw [List.length_take]; omega)
      clear hu h
      go_wp2
      go_meet
      refine ⟨rfl, L.take 100, ?_, rfl⟩
      rw [← HT.out]
    · have h1 : ¬ (100 : Int) < L.length := by omega
      have HT : Hid (L.take 100 = L) := Lib.hid (List.take_of_length_le (by omega))
      clear h
      go_wp2
      go_meet
      refine ⟨rfl, L.take 100, ?_, rfl⟩
      rw [HT.out]
  case rest =>
    obtain ⟨hwx, M, rfl, hM⟩ := hcut
    subst hwx
    have HM : Hid (InU wc (.slice a M.length c) M) := Lib.hid (by rw [hM]; exact (HF.out.below HB1.out).take 100)
    have hM1 : M.length ≤ 100 := by rw [hM, List.length_take]; omega
    have HLN := Lib.hid hM1
    have HFI := Lib.hid (find_any _ M x wc HM.out (by omega))
    clear hM hM1 HF HC
    go_wp2_with fail
    refine HFI.out.mono ?_
    rintro e w2 hf
    obtain ⟨u, ok, rfl, hb, hq⟩ := found_form hf
    have HQ1 := Lib.hid hq
    have HB2 := Lib.hid (HB1.out.trans (hb.mono HB1.out.size))
    have HM2 := Lib.hid (HM.out.below hb)
    clear hb hq hf HFI HM HB1
    have hb3 : Below w2.heap.size w2 (w2.alloc (.cells (userC u) 33)) := (Below.refl _ _).alloc (Nat.le_refl _) _
    have hu3 : UC (w2.alloc (.cells (userC u) 33)) w2.heap.size 0 u := box_six (u := 33) (Below.refl _ _)
    have HFO := Lib.hid (of_any _ M id _ (HM2.out.below hb3) (by have := HLN.out; omega))
    have HB3 := Lib.hid (HB2.out.trans (hb3.mono HB2.out.size))
    have HM3 := Lib.hid (HM2.out.below hb3)
    have HU3 := Lib.hid hu3
    clear hb3 hu3 HB2 HM2
    unfold userC at *
    go_wp2_with fail
    refine HFO.out.mono ?_
    generalize w2.alloc (.cells #[.string u.name, .string u.pass, .int .i64 u.id, .int .i64 u.group, .string u.home, .string u.shell] 33) = w3 at *
    generalize w2.heap.size = n8 at *
    rintro e w4 hf
    obtain ⟨v, ok2, rfl, hb, hq⟩ := found_form hf
    have HQ2 := Lib.hid hq
    have HB4 := Lib.hid (HB3.out.trans (hb.mono HB3.out.size))
    have HM4 := Lib.hid (HM3.out.below hb)
    have HU4 := Lib.hid (HU3.out.below hb)
    clear hb hq hf HFO HM3 HB3 HU3
    have hb5 : Below w4.heap.size w4 (w4.alloc (.cells (userC v) 33)) := (Below.refl _ _).alloc (Nat.le_refl _) _
    have hv5 : UC (w4.alloc (.cells (userC v) 33)) w4.heap.size 0 v := box_six (u := 33) (Below.refl _ _)
    have HB5 := Lib.hid (HB4.out.trans (hb5.mono HB4.out.size))
    have HM5 := Lib.hid (HM4.out.below hb5)
    have HU5 := Lib.hid (HU4.out.below hb5)
    have HV5 := Lib.hid hv5
    clear hb5 hv5 HB4 HM4 HU4
    unfold userC at *
    go_wp2
    generalize w4.alloc (.cells #[.string v.name, .string v.pass, .int .i64 v.id, .int .i64 v.group, .string v.home, .string v.shell] 33) = w5 at *
    generalize w4.heap.size = n10 at *
    go_loopw [12, 13, 14] (fun v12 v13 v14 wr => ∃ k : Nat, k ≤ M.length ∧ v12 = .int .i64 (findU (isName x) (M.take k) 0) ∧ v13 = .int .i64 (findU (isId id) (M.take k) 0) ∧ v14 = .int .i64 k ∧ Hid (Below w5.heap.size w5 wr)) (fun v12 v13 v14 _ => M.length - (intOf v14).toNat)
    case atStart => exact ⟨0, Nat.zero_le _, rfl, rfl, rfl, Lib.hid (Below.refl _ _)⟩
    case round =>
      obtain ⟨k, hk, rfl, rfl, rfl, HH⟩ := hrel
      by_cases hlt : k < M.length
      · have hlt1 : (k : Int) < M.length := by omega
        have hml : (M.length : Int) ≤ 100 := by have := HLN.out; omega
        obtain ⟨b, off, rfl, hu⟩ := HM5.out.uc HH.out hlt
        have HT1 := Lib.hid (findU_take (p := isName x) hlt)
        have HT2 := Lib.hid (findU_take (p := isId id) hlt)
        have HL1 := Lib.hid (findU_lt (isName x) (M.take k))
        have HL2 := Lib.hid (findU_lt (isId id) (M.take k))
        have HR1 : Hid (∃ r, findU (isName x) (M.take (k + 1)) 0 = r) := Lib.hid ⟨_, rfl⟩
        obtain ⟨r1, hr1⟩ := HR1.out
        have HR2 : Hid (∃ r, findU (isId id) (M.take (k + 1)) 0 = r) := Lib.hid ⟨_, rfl⟩
        obtain ⟨r2, hr2⟩ := HR2.out
        rw [hr1] at HT1
        rw [hr2] at HT2
        have HE1 := Lib.hid hr1
        have HE2 := Lib.hid hr2
        clear hr1 hr2 HR1 HR2
        generalize findU (isName x) (M.take k) 0 = q1 at *
        generalize findU (isId id) (M.take k) 0 = q2 at *
        generalize M[k] = f at *
        have he1 : (f.name.toList == x.toList) = isName x f := eq_text _ _
        have he2 : (f.id == id) = isId id f := by
          unfold isId
          by_cases h : f.id = id
          · rw [decide_eq_true h, h]; simp
          · rw [decide_eq_false h]; simpa using h
        obtain ⟨g0, g1, g2, g3, g4, g5⟩ := hu
        by_cases hq1 : q1 < 0
        · cases hp1 : isName x f with
          | true =>
            have HV1 : Hid (r1 = k) := Lib.hid (by rw [HT1.out, if_pos hq1, if_pos hp1])
            rw [hp1] at he1
            clear hp1
            by_cases hq2 : q2 < 0
            · cases hp2 : isId id f with
              | true =>
                have HV2 : Hid (r2 = k) := Lib.hid (by rw [HT2.out, if_pos hq2, if_pos hp2])
                rw [hp2] at he2
                clear hp2
                go_wp2
                go_roundw
                case rel => exact ⟨k + 1, by omega, by rw [HE1.out, HV1.out], by rw [HE2.out, HV2.out], by go_num, HH⟩
                case measure => simp [intOf]; omega
              | false =>
                have HV2 : Hid (r2 = q2) := Lib.hid (by rw [HT2.out, if_pos hq2, if_neg (by rw [hp2]; decide)]; rcases HL2.out with h | h <;> omega)
                rw [hp2] at he2
                clear hp2
                go_wp2
                go_roundw
                case rel => exact ⟨k + 1, by omega, by rw [HE1.out, HV1.out], by rw [HE2.out, HV2.out], by go_num, HH⟩
                case measure => simp [intOf]; omega
            · have HV2 : Hid (r2 = q2) := Lib.hid (by rw [HT2.out, if_neg hq2])
              cases hp2 : isId id f with
              | true =>
                rw [hp2] at he2
                clear hp2
                go_wp2
                go_roundw
                case rel => exact ⟨k + 1, by omega, by rw [HE1.out, HV1.out], by rw [HE2.out, HV2.out], by go_num, HH⟩
                case measure => simp [intOf]; omega
              | false =>
                rw [hp2] at he2
                clear hp2
                go_wp2
                go_roundw
                case rel => exact ⟨k + 1, by omega, by rw [HE1.out, HV1.out], by rw [HE2.out, HV2.out], by go_num, HH⟩
                case measure => simp [intOf]; omega
          | false =>
            have HV1 : Hid (r1 = q1) := Lib.hid (by rw [HT1.out, if_pos hq1, if_neg (by rw [hp1]; decide)]; rcases HL1.out with h | h <;> omega)
            rw [hp1] at he1
            clear hp1
            by_cases hq2 : q2 < 0
            · cases hp2 : isId id f with
              | true =>
                have HV2 : Hid (r2 = k) := Lib.hid (by rw [HT2.out, if_pos hq2, if_pos hp2])
                rw [hp2] at he2
                clear hp2
                go_wp2
                go_roundw
                case rel => exact ⟨k + 1, by omega, by rw [HE1.out, HV1.out], by rw [HE2.out, HV2.out], by go_num, HH⟩
                case measure => simp [intOf]; omega
              | false =>
                have HV2 : Hid (r2 = q2) := Lib.hid (by rw [HT2.out, if_pos hq2, if_neg (by rw [hp2]; decide)]; rcases HL2.out with h | h <;> omega)
                rw [hp2] at he2
                clear hp2
                go_wp2
                go_roundw
                case rel => exact ⟨k + 1, by omega, by rw [HE1.out, HV1.out], by rw [HE2.out, HV2.out], by go_num, HH⟩
                case measure => simp [intOf]; omega
            · have HV2 : Hid (r2 = q2) := Lib.hid (by rw [HT2.out, if_neg hq2])
              cases hp2 : isId id f with
              | true =>
                rw [hp2] at he2
                clear hp2
                go_wp2
                go_roundw
                case rel => exact ⟨k + 1, by omega, by rw [HE1.out, HV1.out], by rw [HE2.out, HV2.out], by go_num, HH⟩
                case measure => simp [intOf]; omega
              | false =>
                rw [hp2] at he2
                clear hp2
                go_wp2
                go_roundw
                case rel => exact ⟨k + 1, by omega, by rw [HE1.out, HV1.out], by rw [HE2.out, HV2.out], by go_num, HH⟩
                case measure => simp [intOf]; omega
        · have HV1 : Hid (r1 = q1) := Lib.hid (by rw [HT1.out, if_neg hq1])
          cases hp1 : isName x f with
          | true =>
            rw [hp1] at he1
            clear hp1
            by_cases hq2 : q2 < 0
            · cases hp2 : isId id f with
              | true =>
                have HV2 : Hid (r2 = k) := Lib.hid (by rw [HT2.out, if_pos hq2, if_pos hp2])
                rw [hp2] at he2
                clear hp2
                go_wp2
                go_roundw
                case rel => exact ⟨k + 1, by omega, by rw [HE1.out, HV1.out], by rw [HE2.out, HV2.out], by go_num, HH⟩
                case measure => simp [intOf]; omega
              | false =>
                have HV2 : Hid (r2 = q2) := Lib.hid (by rw [HT2.out, if_pos hq2, if_neg (by rw [hp2]; decide)]; rcases HL2.out with h | h <;> omega)
                rw [hp2] at he2
                clear hp2
                go_wp2
                go_roundw
                case rel => exact ⟨k + 1, by omega, by rw [HE1.out, HV1.out], by rw [HE2.out, HV2.out], by go_num, HH⟩
                case measure => simp [intOf]; omega
            · have HV2 : Hid (r2 = q2) := Lib.hid (by rw [HT2.out, if_neg hq2])
              cases hp2 : isId id f with
              | true =>
                rw [hp2] at he2
                clear hp2
                go_wp2
                go_roundw
                case rel => exact ⟨k + 1, by omega, by rw [HE1.out, HV1.out], by rw [HE2.out, HV2.out], by go_num, HH⟩
                case measure => simp [intOf]; omega
              | false =>
                rw [hp2] at he2
                clear hp2
                go_wp2
                go_roundw
                case rel => exact ⟨k + 1, by omega, by rw [HE1.out, HV1.out], by rw [HE2.out, HV2.out], by go_num, HH⟩
                case measure => simp [intOf]; omega
          | false =>
            rw [hp1] at he1
            clear hp1
            by_cases hq2 : q2 < 0
            · cases hp2 : isId id f with
              | true =>
                have HV2 : Hid (r2 = k) := Lib.hid (by rw [HT2.out, if_pos hq2, if_pos hp2])
                rw [hp2] at he2
                clear hp2
                go_wp2
                go_roundw
                case rel => exact ⟨k + 1, by omega, by rw [HE1.out, HV1.out], by rw [HE2.out, HV2.out], by go_num, HH⟩
                case measure => simp [intOf]; omega
              | false =>
                have HV2 : Hid (r2 = q2) := Lib.hid (by rw [HT2.out, if_pos hq2, if_neg (by rw [hp2]; decide)]; rcases HL2.out with h | h <;> omega)
                rw [hp2] at he2
                clear hp2
                go_wp2
                go_roundw
                case rel => exact ⟨k + 1, by omega, by rw [HE1.out, HV1.out], by rw [HE2.out, HV2.out], by go_num, HH⟩
                case measure => simp [intOf]; omega
            · have HV2 : Hid (r2 = q2) := Lib.hid (by rw [HT2.out, if_neg hq2])
              cases hp2 : isId id f with
              | true =>
                rw [hp2] at he2
                clear hp2
                go_wp2
                go_roundw
                case rel => exact ⟨k + 1, by omega, by rw [HE1.out, HV1.out], by rw [HE2.out, HV2.out], by go_num, HH⟩
                case measure => simp [intOf]; omega
              | false =>
                rw [hp2] at he2
                clear hp2
                go_wp2
                go_roundw
                case rel => exact ⟨k + 1, by omega, by rw [HE1.out, HV1.out], by rw [HE2.out, HV2.out], by go_num, HH⟩
                case measure => simp [intOf]; omega
      · have hlt1 : ¬ (k : Int) < M.length := by omega
        rw [List.take_of_length_le (by omega)]
        have HB6 := Lib.hid (HB5.out.trans (HH.out.mono HB5.out.size))
        have HM6 := Lib.hid (HM5.out.below HH.out)
        obtain ⟨c0, c1, c2, c3, c4, c5⟩ := (HU5.out.below HH.out).at0
        obtain ⟨d0, d1, d2, d3, d4, d5⟩ := (HV5.out.below HH.out).at0
        have hgd := guard33
        rcases HQ1.out with ⟨rfl, k1, hk1, hu1, hf1⟩ | ⟨rfl, hf1⟩
        · rw [hf1]
          have hk10 : (0 : Int) ≤ k1 := by omega
          have hk11 : (k1 : Int) < M.length := by omega
          obtain ⟨b, off, ha, hc⟩ := HM6.out.uc (Below.refl _ _) hk1
          rw [hu1] at hc
          subst ha
          obtain ⟨g0, g1, g2, g3, g4, g5⟩ := hc
          have heq1 : ∀ W, _ := fun W => eq_users u u W (decide_eq_true rfl)
          rcases HQ2.out with ⟨rfl, k2, hk2, hu2, hf2⟩ | ⟨rfl, hf2⟩
          · rw [hf2]
            have hk20 : (0 : Int) ≤ k2 := by omega
            have hk21 : (k2 : Int) < M.length := by omega
            obtain ⟨b', off', ha, hc⟩ := HM6.out.uc (Below.refl _ _) hk2
            rw [hu2] at hc
            simp only [Option.some.injEq, Addr.mk.injEq, and_true] at ha
            obtain ⟨rfl, rfl⟩ := ha
            obtain ⟨i0, i1, i2, i3, i4, i5⟩ := hc
            have heq2 : ∀ W, _ := fun W => eq_users v v W (decide_eq_true rfl)
            clear hu1 hu2 hf1 hf2 hk1 hk2 hlt hk
            go_upto_region 15 with fail
            go_quiet (fail)
            go_wp2
            go_ret
            exact ⟨rfl, drewN_below HB6.out _⟩
          · rw [hf2]
            clear hu1 hf1 hf2 hk1 hlt hk
            go_upto_region 15 with fail
            go_quiet (fail)
            go_wp2
            go_ret
            exact ⟨rfl, drewN_below HB6.out _⟩
        · rw [hf1]
          rcases HQ2.out with ⟨rfl, k2, hk2, hu2, hf2⟩ | ⟨rfl, hf2⟩
          · rw [hf2]
            have hk20 : (0 : Int) ≤ k2 := by omega
            have hk21 : (k2 : Int) < M.length := by omega
            obtain ⟨b', off', ha, hc⟩ := HM6.out.uc (Below.refl _ _) hk2
            rw [hu2] at hc
            subst ha
            obtain ⟨i0, i1, i2, i3, i4, i5⟩ := hc
            have heq2 : ∀ W, _ := fun W => eq_users v v W (decide_eq_true rfl)
            clear hu2 hf1 hf2 hk2 hlt hk
            go_upto_region 15 with fail
            go_quiet (fail)
            go_wp2
            go_ret
            exact ⟨rfl, drewN_below HB6.out _⟩
          · rw [hf2]
            clear hf1 hf2 hlt hk
            go_upto_region 15 with fail
            go_quiet (fail)
            go_wp2
            go_ret
            exact ⟨rfl, drewN_below HB6.out _⟩
end Go.Proofs.YtmfbmjnoepcigaaDoor
