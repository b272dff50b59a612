/- Expressions: the choice, the last row; all levels. -/
import Derived.Test.YtpjjdaenckedbaaDoorH
namespace Go.Proofs.YtpjjdaenckedbaaDoor
open Go.RowKit

theorem node_cond {w : World} {b k1 k2 k3 : Nat} {t1 t2 t3 : T} (hb : b < w.heap.size) (h1 : TV w b k1 t1) (h2 : TV w b k2 t2) (h3 : TV w b k3 t3) :
    TV ((w.alloc (.cells #[ptr k1, ptr k2, ptr k3] 42)).alloc (.cells #[.string (B [63]), kv w.heap.size 3, .string (B []), .int .i64 0] 57)) b (w.heap.size + 1) (.cond t1 t2 t3) :=
  .cond (by omega) (by omega) (nd_at _ [63] _ [] 0) (kd_at [k1, k2, k3] _) ((h1.put _).put _) ((h2.put _).put _) ((h3.put _).put _)
theorem node_un {w : World} {b k1 : Nat} {t1 : T} (hb : b < w.heap.size) (h1 : TV w b k1 t1) (sg : Bytes) :
    TV ((w.alloc (.cells #[ptr k1] 42)).alloc (.cells #[.string (B sg), kv w.heap.size 1, .string (B []), .int .i64 0] 57)) b (w.heap.size + 1) (.un sg t1) :=
  .un (by omega) (by omega) (nd_at _ sg _ [] 0) (kd_at [k1] _) ((h1.put _).put _)
theorem node_name {w : World} {b : Nat} (hb : b < w.heap.size) (x : Bytes) :
    TV (w.alloc (.cells #[.string (B []), .slice none 0 0, .string (B x), .int .i64 0] 57)) b w.heap.size (.name x) := .name (by omega) (at_new _ _)
theorem node_num {w : World} {b : Nat} (hb : b < w.heap.size) (n : Int) :
    TV (w.alloc (.cells #[.string (B []), .slice none 0 0, .string (B []), .int .i64 n] 57)) b w.heap.size (.num n) := .num (by omega) (at_new _ _)
theorem B_drop1 (s : Bytes) : (B s).extract 1 (B s).size = B (s.drop 1) := B_drop s [0]
set_option maxHeartbeats 4000000 in
theorem fn_choice {R : Nat} (HL : Lev R) : FnC R .choice := by
  intro b s w h hs hR
  show Calls Tryd.prog 23 #[ptr b] w (PE (choiceR (PL R) s) b (25 - R) w)
  have HLv := Lib.hid (fun F s w h hl => HL F b s w h hl (by omega))
  have HRk : Hid (∀ s w, RD w b s (25 - R : Int) → s.length ≤ 256 → Calls Tryd.prog 36 #[ptr b, .int .i64 0] w (PE (rowR (PL R) 10 s) b (25 - R) w)) := Lib.hid (fun s w h hl => fn_row HL 10 b s w 0 rfl h hl hR)
  have H := Lib.hid h
  have HS := Lib.hid hs
  have HE : Hid (choiceR (PL R) s = (rowR (PL R) 10 s).bind fun p => condR (PL R) p.1 p.2) := Lib.hid rfl
  obtain ⟨Y, hY⟩ : ∃ Y, choiceR (PL R) s = Y := ⟨_, rfl⟩
  rw [hY] at HE ⊢
  clear h HL hs hR hY
  generalize (25 - R : Int) = d at *
  generalize rowR (PL R) 10 = f at *
  go_enter Tryd.func23, Tryd.ntmps23
  go_wp2_with fail
  refine (HRk.out s w H.out HS.out).mono ?_
  rintro e w1 ⟨hm, he⟩
  cases hx : f s with
  | none =>
    rw [hx] at he HE
    replace he : e = faultE := he
    unfold faultE at he
    subst he
    have HM9 := Lib.hid hm
    have HX := Lib.hid HE.out
    clear hm hx
    go_wp2
    exact ⟨rfl, PE.no HX.out HM9.out⟩
  | some p =>
    obtain ⟨t1, q⟩ := p
    rw [hx] at he HE
    obtain ⟨k1, rfl, ht, hr, hl⟩ := he
    have HM1 := Lib.hid hm
    have HT1 := Lib.hid ht
    have HR1 := Lib.hid hr
    have HL1 := Lib.hid hl
    have HC : Hid (Y = condR (PL R) t1 q) := Lib.hid HE.out
    clear hm hx ht hr hl HE
    by_cases h63 : sgn (blank q) = [63]
    · have HTK := Lib.hid (take_yes b q [63] d w1 HR1.out h63)
      have hz : ((blank q).drop [63].length).length ≤ 256 := by
        have := bl_le q
        have := HL1.out
        rw [List.length_drop]; omega
      have HZ := Lib.hid hz
      have HC2 : Hid (Y = closeR [58] (fun a r => (PL R .choice r).map fun p => (.cond t1 a p.1, p.2)) (PL R .sets ((blank q).drop [63].length))) := Lib.hid (by
        rw [HC.out]; unfold condR; rw [if_pos h63]; rfl)
      clear h63 hz HC
      generalize (blank q).drop [63].length = z at *
      go_wp2_with fail
      refine HTK.out.mono ?_
      rintro e w2 ⟨rfl, h2, hm2⟩
      have HR2 := Lib.hid h2
      have HM2 := Lib.hid (HM1.out.trans hm2)
      have HT2 := Lib.hid (HT1.out.still hm2)
      clear h2 hm2
      go_wp2_with fail
      refine (HLv.out .sets z w2 HR2.out HZ.out).mono ?_
      rintro e w3 ⟨hm, he⟩
      cases hx : PL R .sets z with
      | none =>
        rw [hx] at he
        replace he : e = faultE := he
        unfold faultE at he
        subst he
        have HM9 := Lib.hid (HM2.out.trans hm)
        have HX := Lib.hid hx
        clear hm hx
        go_wp2
        exact ⟨rfl, PE.no (by rw [HC2.out, HX.out]; rfl) HM9.out⟩
      | some p =>
        obtain ⟨t3, q3⟩ := p
        have HTA := Lib.hid (HT2.out.still hm)
        rw [hx] at he
        obtain ⟨k3, rfl, ht, hr, hl⟩ := he
        have HM3 := Lib.hid (HM2.out.trans hm)
        have HT3 := Lib.hid ht
        have HR3 := Lib.hid hr
        have HL3 := Lib.hid hl
        have HX3 := Lib.hid hx
        clear hm hx ht hr hl
        by_cases h58 : sgn (blank q3) = [58]
        · have HTK := Lib.hid (take_yes b q3 [58] d w3 HR3.out h58)
          have hz : ((blank q3).drop [58].length).length ≤ 256 := by
            have := bl_le q3
            have := HL3.out
            rw [List.length_drop]; omega
          have HZ3 := Lib.hid hz
          have HC3 : Hid (Y = (PL R .choice ((blank q3).drop [58].length)).map fun p => (.cond t1 t3 p.1, p.2)) := Lib.hid (by
            rw [HC2.out, HX3.out]; simp only [closeR]; rw [if_pos h58]; rfl)
          clear h58 hz HC2
          generalize (blank q3).drop [58].length = z3 at *
          go_wp2_with fail
          refine HTK.out.mono ?_
          rintro e w4 ⟨rfl, h4, hm4⟩
          have HR4 := Lib.hid h4
          have HM4 := Lib.hid (HM3.out.trans hm4)
          have HT4 := Lib.hid (HT3.out.still hm4)
          have HTB := Lib.hid (HTA.out.still hm4)
          clear h4 hm4
          go_wp2_with fail
          refine (HLv.out .choice z3 w4 HR4.out HZ3.out).mono ?_
          rintro e w5 ⟨hm, he⟩
          cases hx : PL R .choice z3 with
          | none =>
            rw [hx] at he
            replace he : e = faultE := he
            unfold faultE at he
            subst he
            have HM9 := Lib.hid (HM4.out.trans hm)
            have HX := Lib.hid hx
            clear hm hx
            go_wp2
            exact ⟨rfl, PE.no (by rw [HC3.out, HX.out]; rfl) HM9.out⟩
          | some p =>
            obtain ⟨t5, q5⟩ := p
            have HTC := Lib.hid (HTB.out.still hm)
            have HTD := Lib.hid (HT4.out.still hm)
            rw [hx] at he
            obtain ⟨k5, rfl, ht, hr, hl⟩ := he
            have HM5 := Lib.hid (HM4.out.trans hm)
            have HT5 := Lib.hid ht
            have HR5 := Lib.hid hr
            have HL5 := Lib.hid hl
            have HX5 := Lib.hid hx
            clear hm hx ht hr hl
            go_wp2
            go_ret
            exact PE.yes (by rw [HC3.out, HX5.out]; rfl) ((HM5.out.alloc _).alloc _) (node_cond HR5.out.lt HTC.out HTD.out HT5.out) ((HR5.out.put _).put _) HL5.out
        · have HTK := Lib.hid (take_no b q3 [58] d w3 HR3.out h58)
          have HC3 : Hid (Y = none) := Lib.hid (by rw [HC2.out, HX3.out]; simp only [closeR]; rw [if_neg h58])
          clear h58
          go_wp2_with fail
          refine HTK.out.mono ?_
          rintro e w4 ⟨rfl, h4, hm4⟩
          have HM4 := Lib.hid (HM3.out.trans hm4)
          clear h4 hm4
          go_wp2
          exact ⟨rfl, PE.no HC3.out HM4.out⟩
    · have HTK := Lib.hid (take_no b q [63] d w1 HR1.out h63)
      have HC2 : Hid (Y = some (t1, blank q)) := Lib.hid (by rw [HC.out]; unfold condR; rw [if_neg h63])
      clear h63
      go_wp2_with fail
      refine HTK.out.mono ?_
      rintro e w2 ⟨rfl, h2, hm2⟩
      have HR2 := Lib.hid h2
      have HM2 := Lib.hid (HM1.out.trans hm2)
      have HT2 := Lib.hid (HT1.out.still hm2)
      clear h2 hm2
      go_wp2
      go_ret
      exact PE.yes HC2.out HM2.out HT2.out HR2.out (Nat.le_trans (bl_le q) HL1.out)
set_option maxHeartbeats 4000000 in
theorem one_un {R : Nat} (HL : Lev R) (b : Nat) (s : Bytes) (w : World) (h : RD w b s (25 - R : Int)) (hs : s.length ≤ 256) (hR : R ≤ 24) (hu : isUn (sgn (blank s)) = true) : Calls Tryd.prog 47 #[ptr b] w (PE (oneR (PL R) s) b (25 - R) w) := by
  have HLv := Lib.hid (fun F s w h hl => HL F b s w h hl (by omega))
  have HSG := Lib.hid (sign_any b s _ w h)
  have HE : Hid (oneR (PL R) s = unR (sgn (blank s)) (PL R .one ((blank s).drop 1))) := Lib.hid (by unfold oneR; rw [if_pos hu])
  have hzl : ((blank s).drop 1).length ≤ 256 := by
    have := bl_le s
    rw [List.length_drop]; omega
  have HZ := Lib.hid hzl
  have he2 := B_drop1 (blank s)
  have hle : 1 ≤ (B (blank s)).size := by
    have h1 := sgn_le (blank s)
    show 1 ≤ (blank s).length
    cases hz : sgn (blank s) with
    | nil => rw [hz] at hu; cases hu
    | cons a m => rw [hz] at h1; simp at h1; omega
  obtain ⟨Y, hY⟩ : ∃ Y, oneR (PL R) s = Y := ⟨_, rfl⟩
  rw [hY] at HE ⊢
  clear h HL hs hR hY hzl
  generalize (25 - R : Int) = d at *
  generalize blank s = y at *
  generalize y.drop 1 = z at *
  have hu4 : sgn y = [43] ∨ sgn y = [45] ∨ sgn y = [126] ∨ sgn y = [33] := by
    unfold isUn at hu
    simp only [Bool.or_eq_true, beq_iff_eq] at hu
    rcases hu with ((h | h) | h) | h
    · exact .inl h
    · exact .inr (.inl h)
    · exact .inr (.inr (.inl h))
    · exact .inr (.inr (.inr h))
  clear hu
  generalize sgn y = sg at *
  rcases hu4 with rfl | rfl | rfl | rfl
  · have hcmp := B_cmp [43]
    go_enter Tryd.func47, Tryd.ntmps47
    go_wp2_with fail
    refine HSG.out.mono ?_
    rintro e w1 ⟨rfl, h1, hm1⟩
    have HR1 := Lib.hid h1
    have HM1 := Lib.hid (hm1.set (i := 0) (.string (B z)))
    have c1 := h1.c0
    have f1 := h1.f 0
    clear h1 hm1
    go_wp2_with fail
    refine (HLv.out .one z _ (HR1.out.text z) HZ.out).mono ?_
    rintro e w2 ⟨hm, he⟩
    cases hx : PL R .one z with
    | none =>
      rw [hx] at he
      replace he : e = faultE := he
      unfold faultE at he
      subst he
      have HM9 := Lib.hid (HM1.out.trans hm)
      have HX := Lib.hid hx
      clear hm hx
      go_wp2
      exact ⟨rfl, PE.no (by rw [HE.out, HX.out]; rfl) HM9.out⟩
    | some p =>
      obtain ⟨t5, q5⟩ := p
      rw [hx] at he
      obtain ⟨k5, rfl, ht, hr, hl⟩ := he
      have HM5 := Lib.hid (HM1.out.trans hm)
      have HT5 := Lib.hid ht
      have HR5 := Lib.hid hr
      have HL5 := Lib.hid hl
      have HX5 := Lib.hid hx
      clear hm hx ht hr hl
      go_wp2
      go_ret
      exact PE.yes (by rw [HE.out, HX5.out]; rfl) ((HM5.out.alloc _).alloc _) (node_un HR5.out.lt HT5.out [43]) ((HR5.out.put _).put _) HL5.out
  · have hcmp := B_cmp [45]
    go_enter Tryd.func47, Tryd.ntmps47
    go_wp2_with fail
    refine HSG.out.mono ?_
    rintro e w1 ⟨rfl, h1, hm1⟩
    have HR1 := Lib.hid h1
    have HM1 := Lib.hid (hm1.set (i := 0) (.string (B z)))
    have c1 := h1.c0
    have f1 := h1.f 0
    clear h1 hm1
    go_wp2_with fail
    refine (HLv.out .one z _ (HR1.out.text z) HZ.out).mono ?_
    rintro e w2 ⟨hm, he⟩
    cases hx : PL R .one z with
    | none =>
      rw [hx] at he
      replace he : e = faultE := he
      unfold faultE at he
      subst he
      have HM9 := Lib.hid (HM1.out.trans hm)
      have HX := Lib.hid hx
      clear hm hx
      go_wp2
      exact ⟨rfl, PE.no (by rw [HE.out, HX.out]; rfl) HM9.out⟩
    | some p =>
      obtain ⟨t5, q5⟩ := p
      rw [hx] at he
      obtain ⟨k5, rfl, ht, hr, hl⟩ := he
      have HM5 := Lib.hid (HM1.out.trans hm)
      have HT5 := Lib.hid ht
      have HR5 := Lib.hid hr
      have HL5 := Lib.hid hl
      have HX5 := Lib.hid hx
      clear hm hx ht hr hl
      go_wp2
      go_ret
      exact PE.yes (by rw [HE.out, HX5.out]; rfl) ((HM5.out.alloc _).alloc _) (node_un HR5.out.lt HT5.out [45]) ((HR5.out.put _).put _) HL5.out
  · have hcmp := B_cmp [126]
    go_enter Tryd.func47, Tryd.ntmps47
    go_wp2_with fail
    refine HSG.out.mono ?_
    rintro e w1 ⟨rfl, h1, hm1⟩
    have HR1 := Lib.hid h1
    have HM1 := Lib.hid (hm1.set (i := 0) (.string (B z)))
    have c1 := h1.c0
    have f1 := h1.f 0
    clear h1 hm1
    go_wp2_with fail
    refine (HLv.out .one z _ (HR1.out.text z) HZ.out).mono ?_
    rintro e w2 ⟨hm, he⟩
    cases hx : PL R .one z with
    | none =>
      rw [hx] at he
      replace he : e = faultE := he
      unfold faultE at he
      subst he
      have HM9 := Lib.hid (HM1.out.trans hm)
      have HX := Lib.hid hx
      clear hm hx
      go_wp2
      exact ⟨rfl, PE.no (by rw [HE.out, HX.out]; rfl) HM9.out⟩
    | some p =>
      obtain ⟨t5, q5⟩ := p
      rw [hx] at he
      obtain ⟨k5, rfl, ht, hr, hl⟩ := he
      have HM5 := Lib.hid (HM1.out.trans hm)
      have HT5 := Lib.hid ht
      have HR5 := Lib.hid hr
      have HL5 := Lib.hid hl
      have HX5 := Lib.hid hx
      clear hm hx ht hr hl
      go_wp2
      go_ret
      exact PE.yes (by rw [HE.out, HX5.out]; rfl) ((HM5.out.alloc _).alloc _) (node_un HR5.out.lt HT5.out [126]) ((HR5.out.put _).put _) HL5.out
  · have hcmp := B_cmp [33]
    go_enter Tryd.func47, Tryd.ntmps47
    go_wp2_with fail
    refine HSG.out.mono ?_
    rintro e w1 ⟨rfl, h1, hm1⟩
    have HR1 := Lib.hid h1
    have HM1 := Lib.hid (hm1.set (i := 0) (.string (B z)))
    have c1 := h1.c0
    have f1 := h1.f 0
    clear h1 hm1
    go_wp2_with fail
    refine (HLv.out .one z _ (HR1.out.text z) HZ.out).mono ?_
    rintro e w2 ⟨hm, he⟩
    cases hx : PL R .one z with
    | none =>
      rw [hx] at he
      replace he : e = faultE := he
      unfold faultE at he
      subst he
      have HM9 := Lib.hid (HM1.out.trans hm)
      have HX := Lib.hid hx
      clear hm hx
      go_wp2
      exact ⟨rfl, PE.no (by rw [HE.out, HX.out]; rfl) HM9.out⟩
    | some p =>
      obtain ⟨t5, q5⟩ := p
      rw [hx] at he
      obtain ⟨k5, rfl, ht, hr, hl⟩ := he
      have HM5 := Lib.hid (HM1.out.trans hm)
      have HT5 := Lib.hid ht
      have HR5 := Lib.hid hr
      have HL5 := Lib.hid hl
      have HX5 := Lib.hid hx
      clear hm hx ht hr hl
      go_wp2
      go_ret
      exact PE.yes (by rw [HE.out, HX5.out]; rfl) ((HM5.out.alloc _).alloc _) (node_un HR5.out.lt HT5.out [33]) ((HR5.out.put _).put _) HL5.out
set_option maxHeartbeats 4000000 in
theorem one_par {R : Nat} (HL : Lev R) (b : Nat) (s : Bytes) (w : World) (h : RD w b s (25 - R : Int)) (hs : s.length ≤ 256) (hR : R ≤ 24) (hu : sgn (blank s) = [40]) : Calls Tryd.prog 47 #[ptr b] w (PE (oneR (PL R) s) b (25 - R) w) := by
  have HLv := Lib.hid (fun F s w h hl => HL F b s w h hl (by omega))
  have HSG := Lib.hid (sign_any b s _ w h)
  have HE : Hid (oneR (PL R) s = closeR [41] (fun t r => some (t, r)) (PL R .sets ((blank s).drop 1))) := Lib.hid (by unfold oneR; rw [hu, if_neg (by decide), if_pos rfl])
  have hzl : ((blank s).drop 1).length ≤ 256 := by
    have := bl_le s
    rw [List.length_drop]; omega
  have HZ := Lib.hid hzl
  have he2 := B_drop1 (blank s)
  have hle : 1 ≤ (B (blank s)).size := by
    have h1 := sgn_le (blank s)
    rw [hu] at h1
    exact h1
  obtain ⟨Y, hY⟩ : ∃ Y, oneR (PL R) s = Y := ⟨_, rfl⟩
  rw [hY] at HE ⊢
  rw [hu] at HSG
  clear h HL hs hR hY hzl hu
  generalize (25 - R : Int) = d at *
  generalize blank s = y at *
  generalize y.drop 1 = z at *
  have hcmp := B_cmp [40]
  go_enter Tryd.func47, Tryd.ntmps47
  go_wp2_with fail
  refine HSG.out.mono ?_
  rintro e w1 ⟨rfl, h1, hm1⟩
  have HR1 := Lib.hid h1
  have HM1 := Lib.hid (hm1.set (i := 0) (.string (B z)))
  have c1 := h1.c0
  have f1 := h1.f 0
  clear h1 hm1
  go_wp2_with fail
  refine (HLv.out .sets z _ (HR1.out.text z) HZ.out).mono ?_
  rintro e w2 ⟨hm, he⟩
  cases hx : PL R .sets z with
  | none =>
    rw [hx] at he
    replace he : e = faultE := he
    unfold faultE at he
    subst he
    have HM9 := Lib.hid (HM1.out.trans hm)
    have HX := Lib.hid hx
    clear hm hx
    go_wp2
    exact ⟨rfl, PE.no (by rw [HE.out, HX.out]; rfl) HM9.out⟩
  | some p =>
    obtain ⟨t3, q3⟩ := p
    rw [hx] at he
    obtain ⟨k3, rfl, ht, hr, hl⟩ := he
    have HM3 := Lib.hid (HM1.out.trans hm)
    have HT3 := Lib.hid ht
    have HR3 := Lib.hid hr
    have HL3 := Lib.hid hl
    have HX3 := Lib.hid hx
    clear hm hx ht hr hl
    by_cases h58 : sgn (blank q3) = [41]
    · have HTK := Lib.hid (take_yes b q3 [41] d w2 HR3.out h58)
      have hz : ((blank q3).drop [41].length).length ≤ 256 := by
        have := bl_le q3
        have := HL3.out
        rw [List.length_drop]; omega
      have HZ3 := Lib.hid hz
      have HC3 : Hid (Y = some (t3, (blank q3).drop [41].length)) := Lib.hid (by
        rw [HE.out, HX3.out]; simp only [closeR]; rw [if_pos h58]; rfl)
      clear h58 hz
      generalize (blank q3).drop [41].length = z3 at *
      go_wp2_with fail
      refine HTK.out.mono ?_
      rintro e w4 ⟨rfl, h4, hm4⟩
      have HR4 := Lib.hid h4
      have HM4 := Lib.hid (HM3.out.trans hm4)
      have HT4 := Lib.hid (HT3.out.still hm4)
      clear h4 hm4
      go_wp2
      go_ret
      exact PE.yes HC3.out HM4.out HT4.out HR4.out HZ3.out
    · have HTK := Lib.hid (take_no b q3 [41] d w2 HR3.out h58)
      have HC3 : Hid (Y = none) := Lib.hid (by rw [HE.out, HX3.out]; simp only [closeR]; rw [if_neg h58])
      clear h58
      go_wp2_with fail
      refine HTK.out.mono ?_
      rintro e w4 ⟨rfl, h4, hm4⟩
      have HM4 := Lib.hid (HM3.out.trans hm4)
      clear h4 hm4
      go_wp2
      exact ⟨rfl, PE.no HC3.out HM4.out⟩
set_option maxHeartbeats 4000000 in
theorem one_atm {R : Nat} (b : Nat) (s : Bytes) (w : World) (h : RD w b s (25 - R : Int)) (hs : s.length ≤ 256) (hu : isUn (sgn (blank s)) = false) (hp : sgn (blank s) ≠ [40]) : Calls Tryd.prog 47 #[ptr b] w (PE (oneR (PL R) s) b (25 - R) w) := by
  have HSG := Lib.hid (sign_any b s _ w h)
  have HE : Hid (oneR (PL R) s = atomR (blank s)) := Lib.hid (by unfold oneR; rw [if_neg (by rw [hu]; decide), if_neg hp])
  have hyl : (blank s).length ≤ 256 := Nat.le_trans (bl_le s) hs
  have hbb := blank_blank s
  have hcs : ((B (sgn (blank s))).toList == [43]) = false ∧ ((B (sgn (blank s))).toList == [45]) = false ∧ ((B (sgn (blank s))).toList == [126]) = false ∧ ((B (sgn (blank s))).toList == [33]) = false ∧ ((B (sgn (blank s))).toList == [40]) = false := by
    unfold isUn at hu
    simp only [Bool.or_eq_false_iff, beq_eq_false_iff_ne] at hu
    simp only [B_cmp, decide_eq_false_iff_not]
    exact ⟨hu.1.1.1, hu.1.1.2, hu.1.2, hu.2, hp⟩
  obtain ⟨n0, n1, n2, n3, n4⟩ := hcs
  clear h hs hu hp
  rw [HE.out]
  clear HE
  generalize (25 - R : Int) = d at *
  generalize blank s = y at *
  have HWD := Lib.hid (fun w h => word_any b y d w h (by omega))
  rw [hbb] at HWD
  have he2 : (B y).extract (B (word y)).size (B y).size = B (y.drop (word y).length) := B_drop _ _
  have hle : (B (word y)).size ≤ (B y).size := word_le y
  have HZ : Hid ((y.drop (word y).length).length ≤ 256) := Lib.hid (by rw [List.length_drop]; omega)
  have HE : Hid (atomR y = if hasLet (word y) then some (.name (word y), y.drop (word y).length) else (constantS (word y)).map fun n => (.num n, y.drop (word y).length)) := Lib.hid rfl
  have HWL : Hid ((word y).length ≤ 1000) := Lib.hid (Nat.le_trans (word_le y) (by omega))
  generalize sgn y = sg at *
  generalize atomR y = Y at *
  generalize y.drop (word y).length = z at *
  clear hbb hyl
  cases hx : word y with
  | nil =>
    rw [hx] at HWD he2 hle HE
    have hb0 : ((B []).toList == []) = true := by rw [B_list]; rfl
    have HE2 : Hid (Y = none) := Lib.hid HE.out
    clear hx HE
    have hco := const_none
    have HCO := Lib.hid hco
    clear hco
    go_enter Tryd.func47, Tryd.ntmps47
    go_wp2_with fail
    refine HSG.out.mono ?_
    rintro e w1 ⟨rfl, h1, hm1⟩
    have HR1 := Lib.hid h1
    have HM1 := Lib.hid hm1
    clear h1 hm1
    go_wp2_with fail
    refine (HWD.out w1 HR1.out).mono ?_
    rintro e w2 ⟨rfl, h2, hm2⟩
    have HR2 := Lib.hid h2
    have HM2 := Lib.hid ((HM1.out.trans hm2).set (i := 0) (.string (B z)))
    have c2 := h2.c0
    have f2 := h2.f 0
    clear h2 hm2
    go_wp2_with fail
    refine (HCO.out _).mono ?_
    rintro e w3 ⟨rfl, hb3⟩
    have HM3 := Lib.hid (HM2.out.trans (Mo.of hb3))
    clear hb3
    unfold conV
    go_wp2
    exact ⟨rfl, PE.no HE2.out HM3.out⟩
  | cons c l =>
    have hb0 : ((B (c :: l)).toList == []) = false := by rw [B_list]; rfl
    have hsz : 0 < (B (c :: l)).size := Nat.succ_pos _
    have hg : (B (c :: l))[0] = c := rfl
    rw [hx] at HWD he2 hle HE HWL
    clear hx
    cases hc : isLet c with
    | true =>
      have HC := Lib.hid hc
      have HE2 : Hid (Y = some (.name (c :: l), z)) := Lib.hid (by rw [HE.out, if_pos (by exact hc)])
      clear hc HE
      go_enter Tryd.func47, Tryd.ntmps47
      go_wp2_with fail
      refine HSG.out.mono ?_
      rintro e w1 ⟨rfl, h1, hm1⟩
      have HR1 := Lib.hid h1
      have HM1 := Lib.hid hm1
      clear h1 hm1
      go_wp2_with fail
      refine (HWD.out w1 HR1.out).mono ?_
      rintro e w2 ⟨rfl, h2, hm2⟩
      have HR2 := Lib.hid h2
      have HM2 := Lib.hid ((HM1.out.trans hm2).set (i := 0) (.string (B z)))
      have c2 := h2.c0
      have f2 := h2.f 0
      clear h2 hm2
      go_wp2_with fail
      refine (letter_any c _).mono ?_
      rw [HC.out]
      rintro e w3 ⟨rfl, rfl⟩
      go_wp2
      go_ret
      have hlt := (HR2.out.text z).lt
      have hnn := node_name (w := w2.setCell ⟨b, 0, none⟩ (.string (B z))) hlt (c :: l)
      rw [World.size_setCell] at hnn
      exact PE.yes HE2.out (HM2.out.alloc _) hnn ((HR2.out.text z).put _) HZ.out
    | false =>
      have HC := Lib.hid hc
      have HE2 : Hid (Y = (constantS (c :: l)).map fun n => (.num n, z)) := Lib.hid (by rw [HE.out, if_neg (by show ¬ isLet c = true; rw [hc]; decide)])
      have HCO := Lib.hid (fun w => constant_any (c :: l) w HWL.out)
      clear hc HE
      go_enter Tryd.func47, Tryd.ntmps47
      go_wp2_with fail
      refine HSG.out.mono ?_
      rintro e w1 ⟨rfl, h1, hm1⟩
      have HR1 := Lib.hid h1
      have HM1 := Lib.hid hm1
      clear h1 hm1
      go_wp2_with fail
      refine (HWD.out w1 HR1.out).mono ?_
      rintro e w2 ⟨rfl, h2, hm2⟩
      have HR2 := Lib.hid h2
      have HM2 := Lib.hid ((HM1.out.trans hm2).set (i := 0) (.string (B z)))
      have c2 := h2.c0
      have f2 := h2.f 0
      clear h2 hm2
      go_wp2_with fail
      refine (letter_any c _).mono ?_
      rw [HC.out]
      rintro e w3 ⟨rfl, rfl⟩
      go_wp2_with fail
      refine (HCO.out _).mono ?_
      cases hk : constantS (c :: l) with
      | none =>
        rw [hk] at HE2
        rintro e w4 ⟨rfl, hb4⟩
        have HM4 := Lib.hid (HM2.out.trans (Mo.of hb4))
        clear hb4 hk
        unfold conV
        go_wp2
        exact ⟨rfl, PE.no HE2.out HM4.out⟩
      | some n =>
        rw [hk] at HE2
        rintro e w4 ⟨rfl, hb4⟩
        have HM4 := Lib.hid (HM2.out.trans (Mo.of hb4))
        have HR4 := Lib.hid ((HR2.out.text z).still hb4)
        clear hb4 hk
        unfold conV
        go_wp2
        go_ret
        exact PE.yes HE2.out (HM4.out.alloc _) (node_num HR4.out.lt n) (HR4.out.put _) HZ.out
theorem fn_one {R : Nat} (HL : Lev R) : FnC R .one := by
  intro b s w h hs hR
  show Calls Tryd.prog 47 #[ptr b] w (PE (oneR (PL R) s) b (25 - R) w)
  cases hu : isUn (sgn (blank s)) with
  | true => exact one_un HL b s w h hs hR hu
  | false =>
    by_cases hp : sgn (blank s) = [40]
    · exact one_par HL b s w h hs hR hp
    · exact one_atm b s w h hs hu hp
theorem lev_all : ∀ R, Lev R
  | 0 => lev_0
  | R + 1 => lev_of fun F => match F with
    | .sets => fn_sets (lev_all R)
    | .choice => fn_choice (lev_all R)
    | .one => fn_one (lev_all R)
end Go.Proofs.YtpjjdaenckedbaaDoor
