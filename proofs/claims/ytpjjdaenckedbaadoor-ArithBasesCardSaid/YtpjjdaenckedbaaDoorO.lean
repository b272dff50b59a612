/- Expressions: what a sign of two makes, when both parts count. -/
import Derived.Test.YtpjjdaenckedbaaDoorN
import Derived.BigRegion
namespace Go.Proofs.YtpjjdaenckedbaaDoor
open Go.RowKit

set_option maxHeartbeats 8000000 in
set_option maxRecDepth 100000 in
theorem rk_oth {w0 : World} {v1 : Value} {vars : List VarS} {b : Nat} {t1 t2 : T} (i1 : RkC w0 v1 vars b t1) (i2 : RkC w0 v1 vars b t2) (s : Bytes) (ho : s ≠ [124,124]) (ha2 : s ≠ [38,38]) : RkC w0 v1 vars b (.two s t1 t2) := by
  intro k st w ht hw hs hS hl
  cases ht with
  | @two _ a c1 c2 _ _ _ hk ha hn hd ht1 ht2 =>
    have HN := Lib.hid hn
    have HD := Lib.hid hd
    obtain ⟨c0, c1', c2', c3'⟩ := (hn.on hs.1).c
    have ca : w.cell? ⟨a, 0, none⟩ = some (.pointer (some ⟨c1, 0, none⟩)) := (hd.on hs.1).c 0 (by simp)
    have hb0 : ((B []).toList == []) = true := by rw [B_list]; rfl
    have HX : Hid (ev vars (.two s t1 t2) st = bindE (ev vars t1 st) fun x st => bindE (ev vars t2 st) fun y st => ofE (twoV s x y) 22 st) := Lib.hid (by
      show bindE _ _ = _
      simp only [if_neg ho, if_neg ha2])
    have q0 : ((B s).toList == []) = false := by rw [B_list]; simpa using hw.1
    have q1 : ((B s).toList == [63]) = false := by rw [B_list]; simpa using hw.2.1
    have q2 : ((B s).toList == [124,124]) = false := by rw [B_list]; simpa using ho
    have q3 : ((B s).toList == [38,38]) = false := by rw [B_list]; simpa using ha2
    have HK0 : True := trivial
    have hl1 : st.length + cnt t1 ≤ 1000 := by simp only [cnt] at hl; omega
    have HKC := Lib.hid (i1 c1 st w ht1 hw.2.2.1 hs hS hl1)
    have HEV := Lib.hid (fun n st1 h => ev_ok vars t1 st n st1 hw.2.2.1 hS h)
    have HL := Lib.hid (show st.length + (cnt t1 + cnt t2) ≤ 1000 from hl)
    have HT2 := Lib.hid ht2
    have HW2 := Lib.hid hw.2.2.2
    clear ho ha2 hn hk ha hd ht1 ht2 hs hS hl hw hl1
    generalize ev vars (.two s t1 t2) st = Y at *
    unfold ptr0 at *
    go_enter Tryd.func16, Tryd.ntmps16
    go_wp2_with fail
    refine (HKC.out).mono ?_
    rintro e w1 he
    cases hx1 : ev vars t1 st with
    | error c =>
      rw [hx1] at he
      obtain ⟨he, hb⟩ := he
      unfold errE at he
      subst he
      have HB := Lib.hid hb
      have HX1 := Lib.hid hx1
      clear hb hx1
      go_wp2
      exact ⟨rfl, EvP.no (by rw [HX.out, HX1.out]; rfl) HB.out⟩
    | ok p =>
      obtain ⟨n1, st1⟩ := p
      rw [hx1] at he
      obtain ⟨rfl, hst⟩ := he
      have HST1 := Lib.hid hst
      have HX1 := Lib.hid hx1
      clear hst
      clear HK0
      have HE1 := Lib.hid (HEV.out n1 st1 hx1)
      have HXX : Hid (Y = bindE (ev vars t2 st1) fun y st => ofE (twoV s n1 y) 22 st) := Lib.hid (by rw [HX.out, hx1]; rfl)
      clear c0 c1' c2' c3' ca hx1
      have HK2 := Lib.hid (fun w h => i2 c2 st1 w HT2.out HW2.out h HE1.out.2.1 (by have := HE1.out.2.2; have := HL.out; omega))
      have HCS : Hid (∀ w, St w0 v1 st1 w → (w.cell? ⟨k, 0, none⟩ = some (.string (B s)) ∧ w.cell? ⟨k, 1, none⟩ = some (.slice (some ⟨a, 0, none⟩) 2 2) ∧ w.cell? ⟨k, 2, none⟩ = some (.string (B [])) ∧ w.cell? ⟨a, 1, none⟩ = some (.pointer (some ⟨c2, 0, none⟩)))) := Lib.hid (fun w h => ⟨(HN.out.on h.1).c.1, (HN.out.on h.1).c.2.1, (HN.out.on h.1).c.2.2.1, (HD.out.on h.1).c 1 (by simp)⟩)
      obtain ⟨d0, d1, d2, d3⟩ := HCS.out _ HST1.out
      unfold ptr0 at *
      have HTW := Lib.hid (fun y w => two_any s n1 y HE1.out.1 w)
      have HCS9 := Lib.hid (fun (w : World) (st' : List VarS) (h : St w0 v1 st' w) => (show (w.cell? ⟨k, 0, none⟩ = some (.string (B s)) ∧ w.cell? ⟨k, 1, none⟩ = some (.slice (some ⟨a, 0, none⟩) 2 2) ∧ w.cell? ⟨k, 2, none⟩ = some (.string (B [])) ∧ w.cell? ⟨a, 1, none⟩ = some (.pointer (some ⟨c2, 0, none⟩))) from ⟨(HN.out.on h.1).c.1, (HN.out.on h.1).c.2.1, (HN.out.on h.1).c.2.2.1, (HD.out.on h.1).c 1 (by simp)⟩))
      have HSD := Lib.hid (HST1.out.below (Below.refl w1.heap.size w1).drew)
      obtain ⟨g0, g1, g2, g3⟩ := HCS.out _ HSD.out
      cases hx9 : ev vars t2 st1 with
      | error c =>
        have HX9 := Lib.hid hx9
        have HEE : Hid (Y = .error c) := Lib.hid (by rw [HXX.out, hx9]; rfl)
        clear hx9
        go_wp2_with fail
        refine wp_region_any (by kernel_rfl) ?_
        try (change wpAny _ _ _ _ _ _ _ (World.drew _))
        refine wpAny_take (i := 0) (v := ?_) rfl (by kernel_rfl) (by kernel_rfl) (by kernel_rfl) (fun _ _ _ h => h) (Or.inl ⟨by rfl, ?_⟩) ?_
        rotate_left
        · (intro W; go_simp; try with_reducible rfl)
        refine wpAny_take (i := 1) (v := ?_) rfl (by kernel_rfl) (by kernel_rfl) (by kernel_rfl) (fun _ _ _ h => h) (Or.inl ⟨by rfl, ?_⟩) ?_
        rotate_left
        · (intro W; go_simp; try with_reducible rfl)
        refine wpAny_take (i := 2) (v := ?_) rfl (by kernel_rfl) (by kernel_rfl) (by kernel_rfl) (fun _ _ _ h => h) (Or.inl ⟨by rfl, ?_⟩) ?_
        rotate_left
        · (intro W; go_simp; try with_reducible rfl)
        refine wpAny_take (i := 4) (v := ?_) rfl (by kernel_rfl) (by kernel_rfl) (by kernel_rfl) (fun _ _ _ h => h) (Or.inl ⟨by rfl, ?_⟩) ?_
        rotate_left
        · (intro W; go_simp; try with_reducible rfl)
        refine wpAny_take (i := 5) (v := ?_) rfl (by kernel_rfl) (by kernel_rfl) (by kernel_rfl) (fun _ _ _ h => h) (Or.inl ⟨by rfl, ?_⟩) ?_
        rotate_left
        · (intro W; go_simp; try with_reducible rfl)
        refine wpAny_take (i := 6) (v := ?_) rfl (by kernel_rfl) (by kernel_rfl) (by kernel_rfl) (fun _ _ _ h => h) (Or.inl ⟨by rfl, ?_⟩) ?_
        rotate_left
        · (intro W; go_simp; try with_reducible rfl)
        refine wpAny_take (i := 7) (v := ?_) rfl (by kernel_rfl) (by kernel_rfl) (by kernel_rfl) (fun _ _ _ h => h) (Or.inl ⟨by rfl, ?_⟩) ?_
        rotate_left
        · (intro W; go_simp; try with_reducible rfl)
        refine wpAny_take (i := 8) (v := ?_) rfl (by kernel_rfl) (by kernel_rfl) (by kernel_rfl) (fun _ _ _ h => h) (Or.inl ⟨by rfl, ?_⟩) ?_
        rotate_left
        · (intro W; go_simp; try with_reducible rfl)
        refine wpAny_ready (rs := [3, 9]) (by kernel_rfl) (by simp) ?_
        refine AllReady.cons rfl (fun K hK => ?_) ?_
        · go_simp
          refine hK _ _ ?_
          clear hK K
          refine wpAny_ready (rs := [9]) (by kernel_rfl) (by simp) ?_
          refine AllReady.cons rfl (fun K hK => ?_) ?_
          · go_simp
            refine hK _ _ ?_
            clear hK K
            refine wpAny_take (i := 10) (v := ?_) rfl (by kernel_rfl) (by kernel_rfl) (by kernel_rfl) (fun _ _ _ h => h) (Or.inl ⟨by rfl, ?_⟩) ?_
            rotate_left
            · (intro W; go_simp; try with_reducible rfl)
            refine wpAny_ready (rs := [11]) (by kernel_rfl) (by simp) ?_
            refine AllReady.cons rfl (fun K hK => ?_) ?_
            · go_simp
              refine hK _ _ ?_
              clear hK K
              refine wpAny_ready (rs := [12]) (by kernel_rfl) (by simp) ?_
              refine AllReady.cons rfl (fun K hK => ?_) ?_
              · go_simp
                refine (HK2.out _ HSD.out).mono ?_
                rintro e w9 he
                rw [HX9.out] at he
                obtain ⟨he, hb⟩ := he
                unfold errE at he
                subst he
                go_simp
                exact ⟨rfl, EvP.no HEE.out hb⟩
              exact AllReady.nil
            exact AllReady.nil
          exact AllReady.nil
        refine AllReady.cons rfl (fun K hK => ?_) ?_
        · go_simp
          refine hK _ _ ?_
          clear hK K
          refine wpAny_take (i := 10) (v := ?_) rfl (by kernel_rfl) (by kernel_rfl) (by kernel_rfl) (fun _ _ _ h => h) (Or.inl ⟨by rfl, ?_⟩) ?_
          rotate_left
          · (intro W; go_simp; try with_reducible rfl)
          refine wpAny_ready (rs := [3, 11]) (by kernel_rfl) (by simp) ?_
          refine AllReady.cons rfl (fun K hK => ?_) ?_
          · go_simp
            refine hK _ _ ?_
            clear hK K
            refine wpAny_ready (rs := [11]) (by kernel_rfl) (by simp) ?_
            refine AllReady.cons rfl (fun K hK => ?_) ?_
            · go_simp
              refine hK _ _ ?_
              clear hK K
              refine wpAny_ready (rs := [12]) (by kernel_rfl) (by simp) ?_
              refine AllReady.cons rfl (fun K hK => ?_) ?_
              · go_simp
                refine (HK2.out _ HSD.out).mono ?_
                rintro e w9 he
                rw [HX9.out] at he
                obtain ⟨he, hb⟩ := he
                unfold errE at he
                subst he
                go_simp
                exact ⟨rfl, EvP.no HEE.out hb⟩
              exact AllReady.nil
            exact AllReady.nil
          refine AllReady.cons rfl (fun K hK => ?_) ?_
          · go_simp
            refine hK _ _ ?_
            clear hK K
            refine wpAny_ready (rs := [3, 12]) (by kernel_rfl) (by simp) ?_
            refine AllReady.cons rfl (fun K hK => ?_) ?_
            · go_simp
              refine hK _ _ ?_
              clear hK K
              refine wpAny_ready (rs := [12]) (by kernel_rfl) (by simp) ?_
              refine AllReady.cons rfl (fun K hK => ?_) ?_
              · go_simp
                refine (HK2.out _ HSD.out).mono ?_
                rintro e w9 he
                rw [HX9.out] at he
                obtain ⟨he, hb⟩ := he
                unfold errE at he
                subst he
                go_simp
                exact ⟨rfl, EvP.no HEE.out hb⟩
              exact AllReady.nil
            refine AllReady.cons rfl (fun K hK => ?_) ?_
            · go_simp
              refine (HK2.out _ HSD.out).mono ?_
              rintro e w9 he
              rw [HX9.out] at he
              obtain ⟨he, hb⟩ := he
              unfold errE at he
              subst he
              go_simp
              exact ⟨rfl, EvP.no HEE.out hb⟩
            exact AllReady.nil
          exact AllReady.nil
        exact AllReady.nil
      | ok p =>
        obtain ⟨y, st2⟩ := p
        have HX9 := Lib.hid hx9
        have HY := Lib.hid (show Y = ofE (twoV s n1 y) 22 st2 by rw [HXX.out, hx9]; rfl)
        clear hx9
        cases hr : twoV s n1 y with
        | none =>
          have HEE : Hid (Y = .error 22) := Lib.hid (by rw [HY.out, hr]; rfl)
          have HT2w := Lib.hid (fun w => HTW.out y w)
          rw [hr] at HT2w
          clear hr
          go_wp2_with fail
          refine wp_region_any (by kernel_rfl) ?_
          try (change wpAny _ _ _ _ _ _ _ (World.drew _))
          refine wpAny_take (i := 0) (v := ?_) rfl (by kernel_rfl) (by kernel_rfl) (by kernel_rfl) (fun _ _ _ h => h) (Or.inl ⟨by rfl, ?_⟩) ?_
          rotate_left
          · (intro W; go_simp; try with_reducible rfl)
          refine wpAny_take (i := 1) (v := ?_) rfl (by kernel_rfl) (by kernel_rfl) (by kernel_rfl) (fun _ _ _ h => h) (Or.inl ⟨by rfl, ?_⟩) ?_
          rotate_left
          · (intro W; go_simp; try with_reducible rfl)
          refine wpAny_take (i := 2) (v := ?_) rfl (by kernel_rfl) (by kernel_rfl) (by kernel_rfl) (fun _ _ _ h => h) (Or.inl ⟨by rfl, ?_⟩) ?_
          rotate_left
          · (intro W; go_simp; try with_reducible rfl)
          refine wpAny_take (i := 4) (v := ?_) rfl (by kernel_rfl) (by kernel_rfl) (by kernel_rfl) (fun _ _ _ h => h) (Or.inl ⟨by rfl, ?_⟩) ?_
          rotate_left
          · (intro W; go_simp; try with_reducible rfl)
          refine wpAny_take (i := 5) (v := ?_) rfl (by kernel_rfl) (by kernel_rfl) (by kernel_rfl) (fun _ _ _ h => h) (Or.inl ⟨by rfl, ?_⟩) ?_
          rotate_left
          · (intro W; go_simp; try with_reducible rfl)
          refine wpAny_take (i := 6) (v := ?_) rfl (by kernel_rfl) (by kernel_rfl) (by kernel_rfl) (fun _ _ _ h => h) (Or.inl ⟨by rfl, ?_⟩) ?_
          rotate_left
          · (intro W; go_simp; try with_reducible rfl)
          refine wpAny_take (i := 7) (v := ?_) rfl (by kernel_rfl) (by kernel_rfl) (by kernel_rfl) (fun _ _ _ h => h) (Or.inl ⟨by rfl, ?_⟩) ?_
          rotate_left
          · (intro W; go_simp; try with_reducible rfl)
          refine wpAny_take (i := 8) (v := ?_) rfl (by kernel_rfl) (by kernel_rfl) (by kernel_rfl) (fun _ _ _ h => h) (Or.inl ⟨by rfl, ?_⟩) ?_
          rotate_left
          · (intro W; go_simp; try with_reducible rfl)
          refine wpAny_ready (rs := [3, 9]) (by kernel_rfl) (by simp) ?_
          refine AllReady.cons rfl (fun K hK => ?_) ?_
          · go_simp
            refine hK _ _ ?_
            clear hK K
            refine wpAny_ready (rs := [9]) (by kernel_rfl) (by simp) ?_
            refine AllReady.cons rfl (fun K hK => ?_) ?_
            · go_simp
              refine hK _ _ ?_
              clear hK K
              refine wpAny_take (i := 10) (v := ?_) rfl (by kernel_rfl) (by kernel_rfl) (by kernel_rfl) (fun _ _ _ h => h) (Or.inl ⟨by rfl, ?_⟩) ?_
              rotate_left
              · (intro W; go_simp; try with_reducible rfl)
              refine wpAny_ready (rs := [11]) (by kernel_rfl) (by simp) ?_
              refine AllReady.cons rfl (fun K hK => ?_) ?_
              · go_simp
                refine hK _ _ ?_
                clear hK K
                refine wpAny_ready (rs := [12]) (by kernel_rfl) (by simp) ?_
                refine AllReady.cons rfl (fun K hK => ?_) ?_
                · go_simp
                  refine (HK2.out _ HSD.out).mono ?_
                  rintro e w9 he
                  rw [HX9.out] at he
                  obtain ⟨rfl, hst⟩ := he
                  have hst9 := Lib.hid hst
                  obtain ⟨f0, f1, f2, f3⟩ := HCS9.out _ _ hst
                  clear hst
                  go_simp
                  refine hK _ _ ?_
                  clear hK K
                  refine wpAny_ready (rs := [13]) (by kernel_rfl) (by simp) ?_
                  refine AllReady.cons rfl (fun K hK => ?_) ?_
                  · go_simp
                    refine (HT2w.out _).mono ?_
                    rintro e w10 ⟨he, hw⟩
                    replace he : e = .panicked [{ v := .iface 27 (.int .i64 22), recovered := false }] := he
                    subst he
                    subst hw
                    go_simp
                    exact ⟨rfl, EvP.no HEE.out hst9.out.1⟩
                  exact AllReady.nil
                exact AllReady.nil
              exact AllReady.nil
            exact AllReady.nil
          refine AllReady.cons rfl (fun K hK => ?_) ?_
          · go_simp
            refine hK _ _ ?_
            clear hK K
            refine wpAny_take (i := 10) (v := ?_) rfl (by kernel_rfl) (by kernel_rfl) (by kernel_rfl) (fun _ _ _ h => h) (Or.inl ⟨by rfl, ?_⟩) ?_
            rotate_left
            · (intro W; go_simp; try with_reducible rfl)
            refine wpAny_ready (rs := [3, 11]) (by kernel_rfl) (by simp) ?_
            refine AllReady.cons rfl (fun K hK => ?_) ?_
            · go_simp
              refine hK _ _ ?_
              clear hK K
              refine wpAny_ready (rs := [11]) (by kernel_rfl) (by simp) ?_
              refine AllReady.cons rfl (fun K hK => ?_) ?_
              · go_simp
                refine hK _ _ ?_
                clear hK K
                refine wpAny_ready (rs := [12]) (by kernel_rfl) (by simp) ?_
                refine AllReady.cons rfl (fun K hK => ?_) ?_
                · go_simp
                  refine (HK2.out _ HSD.out).mono ?_
                  rintro e w9 he
                  rw [HX9.out] at he
                  obtain ⟨rfl, hst⟩ := he
                  have hst9 := Lib.hid hst
                  obtain ⟨f0, f1, f2, f3⟩ := HCS9.out _ _ hst
                  clear hst
                  go_simp
                  refine hK _ _ ?_
                  clear hK K
                  refine wpAny_ready (rs := [13]) (by kernel_rfl) (by simp) ?_
                  refine AllReady.cons rfl (fun K hK => ?_) ?_
                  · go_simp
                    refine (HT2w.out _).mono ?_
                    rintro e w10 ⟨he, hw⟩
                    replace he : e = .panicked [{ v := .iface 27 (.int .i64 22), recovered := false }] := he
                    subst he
                    subst hw
                    go_simp
                    exact ⟨rfl, EvP.no HEE.out hst9.out.1⟩
                  exact AllReady.nil
                exact AllReady.nil
              exact AllReady.nil
            refine AllReady.cons rfl (fun K hK => ?_) ?_
            · go_simp
              refine hK _ _ ?_
              clear hK K
              refine wpAny_ready (rs := [3, 12]) (by kernel_rfl) (by simp) ?_
              refine AllReady.cons rfl (fun K hK => ?_) ?_
              · go_simp
                refine hK _ _ ?_
                clear hK K
                refine wpAny_ready (rs := [12]) (by kernel_rfl) (by simp) ?_
                refine AllReady.cons rfl (fun K hK => ?_) ?_
                · go_simp
                  refine (HK2.out _ HSD.out).mono ?_
                  rintro e w9 he
                  rw [HX9.out] at he
                  obtain ⟨rfl, hst⟩ := he
                  have hst9 := Lib.hid hst
                  obtain ⟨f0, f1, f2, f3⟩ := HCS9.out _ _ hst
                  clear hst
                  go_simp
                  refine hK _ _ ?_
                  clear hK K
                  refine wpAny_ready (rs := [13]) (by kernel_rfl) (by simp) ?_
                  refine AllReady.cons rfl (fun K hK => ?_) ?_
                  · go_simp
                    refine (HT2w.out _).mono ?_
                    rintro e w10 ⟨he, hw⟩
                    replace he : e = .panicked [{ v := .iface 27 (.int .i64 22), recovered := false }] := he
                    subst he
                    subst hw
                    go_simp
                    exact ⟨rfl, EvP.no HEE.out hst9.out.1⟩
                  exact AllReady.nil
                exact AllReady.nil
              refine AllReady.cons rfl (fun K hK => ?_) ?_
              · go_simp
                refine (HK2.out _ HSD.out).mono ?_
                rintro e w9 he
                rw [HX9.out] at he
                obtain ⟨rfl, hst⟩ := he
                have hst9 := Lib.hid hst
                obtain ⟨f0, f1, f2, f3⟩ := HCS9.out _ _ hst
                clear hst
                go_simp
                refine hK _ _ ?_
                clear hK K
                refine wpAny_ready (rs := [3]) (by kernel_rfl) (by simp) ?_
                refine AllReady.cons rfl (fun K hK => ?_) ?_
                · go_simp
                  refine hK _ _ ?_
                  clear hK K
                  refine wpAny_ready (rs := [13]) (by kernel_rfl) (by simp) ?_
                  refine AllReady.cons rfl (fun K hK => ?_) ?_
                  · go_simp
                    refine (HT2w.out _).mono ?_
                    rintro e w10 ⟨he, hw⟩
                    replace he : e = .panicked [{ v := .iface 27 (.int .i64 22), recovered := false }] := he
                    subst he
                    subst hw
                    go_simp
                    exact ⟨rfl, EvP.no HEE.out hst9.out.1⟩
                  exact AllReady.nil
                exact AllReady.nil
              exact AllReady.nil
            exact AllReady.nil
          exact AllReady.nil
        | some m =>
          have HEE : Hid (Y = .ok (m, st2)) := Lib.hid (by rw [HY.out, hr]; rfl)
          have HT2w := Lib.hid (fun w => HTW.out y w)
          rw [hr] at HT2w
          clear hr
          go_wp2_with fail
          go_region_with (first
            | (go_at_call 16
               refine (HK2.out _ HSD.out).mono ?_
               rintro e w9 he
               rw [HX9.out] at he
               obtain ⟨rfl, hst⟩ := he
               have hst9 := Lib.hid hst
               obtain ⟨f0, f1, f2, f3⟩ := HCS9.out _ _ hst
               clear hst)
            | (go_at_call 25
               refine (HT2w.out _).mono ?_
               rintro e w10 ⟨he, hw⟩
               replace he : e = .returned (.int .i64 m) := he
               subst he
               subst hw))
          all_goals (
            go_wp2
            go_ret
            exact EvP.yes HEE.out hst9.out)
end Go.Proofs.YtpjjdaenckedbaaDoor
