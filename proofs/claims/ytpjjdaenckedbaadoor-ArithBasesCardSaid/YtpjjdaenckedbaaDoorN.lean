/- Expressions: what a sign of two makes. -/
import Derived.Test.YtpjjdaenckedbaaDoorM
namespace Go.Proofs.YtpjjdaenckedbaaDoor
open Go.RowKit

set_option maxHeartbeats 8000000 in
set_option maxRecDepth 100000 in
theorem rk_or {w0 : World} {v1 : Value} {vars : List VarS} {b : Nat} {t1 t2 : T} (i1 : RkC w0 v1 vars b t1) (i2 : RkC w0 v1 vars b t2) : RkC w0 v1 vars b (.two [124,124] t1 t2) := by
  intro k st w ht hw hs hS hl
  cases ht with
  | @two _ a c1 c2 _ _ _ hk ha hn hd ht1 ht2 =>
    have HN := Lib.hid hn
    have HD := Lib.hid hd
    obtain ⟨c0, c1', c2', c3'⟩ := (hn.on hs.1).c
    have ca : w.cell? ⟨a, 0, none⟩ = some (.pointer (some ⟨c1, 0, none⟩)) := (hd.on hs.1).c 0 (by simp)
    have hb0 : ((B []).toList == []) = true := by rw [B_list]; rfl
    have hcmp := B_cmp [124,124]
    have HX : Hid (ev vars (.two [124,124] t1 t2) st = bindE (ev vars t1 st) fun x st => if x ≠ 0 then .ok (1, st) else bindE (ev vars t2 st) fun y st => .ok (truthS (decide (y ≠ 0)), st)) := Lib.hid rfl
    have hl1 : st.length + cnt t1 ≤ 1000 := by simp only [cnt] at hl; omega
    have HKC := Lib.hid (i1 c1 st w ht1 hw.2.2.1 hs hS hl1)
    have HEV := Lib.hid (fun n st1 h => ev_ok vars t1 st n st1 hw.2.2.1 hS h)
    have HL := Lib.hid (show st.length + (cnt t1 + cnt t2) ≤ 1000 from hl)
    have HT2 := Lib.hid ht2
    have HW2 := Lib.hid hw.2.2.2
    clear hn hk ha hd ht1 ht2 hs hS hl hw hl1
    generalize ev vars (.two [124,124] t1 t2) st = Y at *
    unfold ptr0 at *
    go_enter Tryd.func16, Tryd.ntmps16
    go_wp2_with fail
    refine (HKC.out).mono ?_
    rintro e w1 he
    cases hx1 : ev vars t1 st with
    | error c =>
      rw [hx1] at he
      obtain ⟨he, hb⟩ := he
      unfold errE at he
      subst he
      have HB := Lib.hid hb
      have HX1 := Lib.hid hx1
      clear hb hx1
      go_wp2
      exact ⟨rfl, EvP.no (by rw [HX.out, HX1.out]; rfl) HB.out⟩
    | ok p =>
      obtain ⟨n1, st1⟩ := p
      rw [hx1] at he
      obtain ⟨rfl, hst⟩ := he
      have HST1 := Lib.hid hst
      have HX1 := Lib.hid hx1
      clear hst
      have HE1 := Lib.hid (HEV.out n1 st1 hx1)
      obtain ⟨d0, d1, d2, d3⟩ := (HN.out.on HST1.out.1).c
      clear c0 c1' c2' c3' ca
      by_cases hz : n1 = 0
      · have z1 : (n1 == 0) = true := by rw [hz]; rfl
        have z2 : (n1 != 0) = false := by rw [hz]; rfl
        have HXX : Hid (Y = bindE (ev vars t2 st1) fun y st => .ok (truthS (decide (y ≠ 0)), st)) := Lib.hid (by rw [HX.out, hx1]; simp only [bindE]; rw [if_neg (by simpa using hz)])
        clear hx1
        have HK2 := Lib.hid (i2 c2 st1 w1 HT2.out HW2.out HST1.out HE1.out.2.1 (by have := HE1.out.2.2; have := HL.out; omega))
        have ca : w1.cell? ⟨a, 1, none⟩ = some (.pointer (some ⟨c2, 0, none⟩)) := (HD.out.on HST1.out.1).c 1 (by simp)
        clear hz
        unfold ptr0 at *
        go_wp2_with fail
        refine (HK2.out).mono ?_
        rintro e w9 he
        cases hx9 : ev vars t2 st1 with
        | error c =>
          rw [hx9] at he
          obtain ⟨he, hb⟩ := he
          unfold errE at he
          subst he
          have HB := Lib.hid hb
          have HX9 := Lib.hid hx9
          clear hb hx9
          go_wp2
          exact ⟨rfl, EvP.no (by rw [HXX.out, HX9.out]; rfl) HB.out⟩
        | ok p =>
          obtain ⟨n9, st9⟩ := p
          rw [hx9] at he
          obtain ⟨rfl, hst⟩ := he
          have HST9 := Lib.hid hst
          have HX9 := Lib.hid hx9
          clear hst hx9
          by_cases hn9 : n9 = 0
          · have z3 : (n9 == 0) = true := by rw [hn9]; rfl
            have z4 : (n9 != 0) = false := by rw [hn9]; rfl
            have HTR : Hid (truthS (decide (n9 ≠ 0)) = truthS false) := Lib.hid (by rw [hn9]; rfl)
            clear hn9
            go_wp2_with fail
            refine (truth_any false _).mono ?_
            rintro e w10 ⟨rfl, rfl⟩
            go_wp2
            go_ret
            exact EvP.yes (by rw [HXX.out, HX9.out]; show Except.ok (truthS (decide (n9 ≠ 0)), st9) = _; rw [HTR.out]) HST9.out
          · have z3 : (n9 == 0) = false := by simpa using hn9
            have z4 : (n9 != 0) = true := by simpa using hn9
            have HTR : Hid (truthS (decide (n9 ≠ 0)) = truthS true) := Lib.hid (by rw [decide_eq_true hn9])
            clear hn9
            go_wp2_with fail
            refine (truth_any true _).mono ?_
            rintro e w10 ⟨rfl, rfl⟩
            go_wp2
            go_ret
            exact EvP.yes (by rw [HXX.out, HX9.out]; show Except.ok (truthS (decide (n9 ≠ 0)), st9) = _; rw [HTR.out]) HST9.out
      · have z1 : (n1 == 0) = false := by simpa using hz
        have z2 : (n1 != 0) = true := by simpa using hz
        have HXX : Hid (Y = .ok (1, st1)) := Lib.hid (by rw [HX.out, hx1]; simp only [bindE]; rw [if_pos hz])
        clear hx1
        clear hz
        go_wp2_with fail
        refine (truth_any true _).mono ?_
        rintro e w9 ⟨rfl, rfl⟩
        go_wp2
        go_ret
        exact EvP.yes (by rw [HXX.out]; rfl) HST1.out
set_option maxHeartbeats 8000000 in
set_option maxRecDepth 100000 in
theorem rk_and {w0 : World} {v1 : Value} {vars : List VarS} {b : Nat} {t1 t2 : T} (i1 : RkC w0 v1 vars b t1) (i2 : RkC w0 v1 vars b t2) : RkC w0 v1 vars b (.two [38,38] t1 t2) := by
  intro k st w ht hw hs hS hl
  cases ht with
  | @two _ a c1 c2 _ _ _ hk ha hn hd ht1 ht2 =>
    have HN := Lib.hid hn
    have HD := Lib.hid hd
    obtain ⟨c0, c1', c2', c3'⟩ := (hn.on hs.1).c
    have ca : w.cell? ⟨a, 0, none⟩ = some (.pointer (some ⟨c1, 0, none⟩)) := (hd.on hs.1).c 0 (by simp)
    have hb0 : ((B []).toList == []) = true := by rw [B_list]; rfl
    have hcmp := B_cmp [38,38]
    have HX : Hid (ev vars (.two [38,38] t1 t2) st = bindE (ev vars t1 st) fun x st => if x = 0 then .ok (0, st) else bindE (ev vars t2 st) fun y st => .ok (truthS (decide (y ≠ 0)), st)) := Lib.hid rfl
    have hl1 : st.length + cnt t1 ≤ 1000 := by simp only [cnt] at hl; omega
    have HKC := Lib.hid (i1 c1 st w ht1 hw.2.2.1 hs hS hl1)
    have HEV := Lib.hid (fun n st1 h => ev_ok vars t1 st n st1 hw.2.2.1 hS h)
    have HL := Lib.hid (show st.length + (cnt t1 + cnt t2) ≤ 1000 from hl)
    have HT2 := Lib.hid ht2
    have HW2 := Lib.hid hw.2.2.2
    clear hn hk ha hd ht1 ht2 hs hS hl hw hl1
    generalize ev vars (.two [38,38] t1 t2) st = Y at *
    unfold ptr0 at *
    go_enter Tryd.func16, Tryd.ntmps16
    go_wp2_with fail
    refine (HKC.out).mono ?_
    rintro e w1 he
    cases hx1 : ev vars t1 st with
    | error c =>
      rw [hx1] at he
      obtain ⟨he, hb⟩ := he
      unfold errE at he
      subst he
      have HB := Lib.hid hb
      have HX1 := Lib.hid hx1
      clear hb hx1
      go_wp2
      exact ⟨rfl, EvP.no (by rw [HX.out, HX1.out]; rfl) HB.out⟩
    | ok p =>
      obtain ⟨n1, st1⟩ := p
      rw [hx1] at he
      obtain ⟨rfl, hst⟩ := he
      have HST1 := Lib.hid hst
      have HX1 := Lib.hid hx1
      clear hst
      have HE1 := Lib.hid (HEV.out n1 st1 hx1)
      obtain ⟨d0, d1, d2, d3⟩ := (HN.out.on HST1.out.1).c
      clear c0 c1' c2' c3' ca
      by_cases hz : n1 = 0
      · have z1 : (n1 == 0) = true := by rw [hz]; rfl
        have z2 : (n1 != 0) = false := by rw [hz]; rfl
        have HXX : Hid (Y = .ok (0, st1)) := Lib.hid (by rw [HX.out, hx1]; simp only [bindE]; rw [if_pos hz])
        clear hx1
        clear hz
        go_wp2_with fail
        refine (truth_any false _).mono ?_
        rintro e w9 ⟨rfl, rfl⟩
        go_wp2
        go_ret
        exact EvP.yes (by rw [HXX.out]; rfl) HST1.out
      · have z1 : (n1 == 0) = false := by simpa using hz
        have z2 : (n1 != 0) = true := by simpa using hz
        have HXX : Hid (Y = bindE (ev vars t2 st1) fun y st => .ok (truthS (decide (y ≠ 0)), st)) := Lib.hid (by rw [HX.out, hx1]; simp only [bindE]; rw [if_neg hz])
        clear hx1
        have HK2 := Lib.hid (i2 c2 st1 w1 HT2.out HW2.out HST1.out HE1.out.2.1 (by have := HE1.out.2.2; have := HL.out; omega))
        have ca : w1.cell? ⟨a, 1, none⟩ = some (.pointer (some ⟨c2, 0, none⟩)) := (HD.out.on HST1.out.1).c 1 (by simp)
        clear hz
        unfold ptr0 at *
        go_wp2_with fail
        refine (HK2.out).mono ?_
        rintro e w9 he
        cases hx9 : ev vars t2 st1 with
        | error c =>
          rw [hx9] at he
          obtain ⟨he, hb⟩ := he
          unfold errE at he
          subst he
          have HB := Lib.hid hb
          have HX9 := Lib.hid hx9
          clear hb hx9
          go_wp2
          exact ⟨rfl, EvP.no (by rw [HXX.out, HX9.out]; rfl) HB.out⟩
        | ok p =>
          obtain ⟨n9, st9⟩ := p
          rw [hx9] at he
          obtain ⟨rfl, hst⟩ := he
          have HST9 := Lib.hid hst
          have HX9 := Lib.hid hx9
          clear hst hx9
          by_cases hn9 : n9 = 0
          · have z3 : (n9 == 0) = true := by rw [hn9]; rfl
            have z4 : (n9 != 0) = false := by rw [hn9]; rfl
            have HTR : Hid (truthS (decide (n9 ≠ 0)) = truthS false) := Lib.hid (by rw [hn9]; rfl)
            clear hn9
            go_wp2_with fail
            refine (truth_any false _).mono ?_
            rintro e w10 ⟨rfl, rfl⟩
            go_wp2
            go_ret
            exact EvP.yes (by rw [HXX.out, HX9.out]; show Except.ok (truthS (decide (n9 ≠ 0)), st9) = _; rw [HTR.out]) HST9.out
          · have z3 : (n9 == 0) = false := by simpa using hn9
            have z4 : (n9 != 0) = true := by simpa using hn9
            have HTR : Hid (truthS (decide (n9 ≠ 0)) = truthS true) := Lib.hid (by rw [decide_eq_true hn9])
            clear hn9
            go_wp2_with fail
            refine (truth_any true _).mono ?_
            rintro e w10 ⟨rfl, rfl⟩
            go_wp2
            go_ret
            exact EvP.yes (by rw [HXX.out, HX9.out]; show Except.ok (truthS (decide (n9 ≠ 0)), st9) = _; rw [HTR.out]) HST9.out
end Go.Proofs.YtpjjdaenckedbaaDoor
