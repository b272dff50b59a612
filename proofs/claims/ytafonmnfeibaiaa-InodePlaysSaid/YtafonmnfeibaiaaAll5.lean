/- Part 6 of the proof: contracts of functions that the statement reaches, and plain lemmas. -/
import Derived.Test.YtafonmnfeibaiaaAll4
import Derived.Test.YtafonmnfeibaiaaAll2
import Derived.Deep.QuietTactic
import Derived.BigQuiet
import Derived.Test.YtafonmnfeibaiaaAll3
import Derived.Laws.MakeOwn
import Derived.StillTailTactics
import Derived.Laws.Rows
import Derived.Laws.CopyRow
import Derived.Deep.MidRow
import Derived.Deep.RegionHeld3
import Derived.Deep.Cut
set_option linter.unusedSimpArgs false
set_option linter.unusedVariables false
namespace Go.Proofs.Ytafonmnfeibaiaa.RF
open Go.RowKit

set_option maxRecDepth 100000 in
set_option maxHeartbeats 4000000 in
theorem rf_move_over {w : World} {t B : Nat} {G : Gt} {T : IT.Tr} (h : Trf w t B G T) (hb : HB T 1000000) {kd kb : Nat} (s sa : ByteArray) {n q : IT.Nd} (hd : T kd = some n) (hq : T kb = some q) (hk : n.kind = 1) (hkb : q.kind = 1) {kx i : Nat} {m : IT.Nd} (hf : IT.findN (bs s) n.names = some kx) (hx : T kx = some m) (hi : (G kd).ents[i]? = some (s, kx)) (hi2 : ∀ (j : Nat) (p : ByteArray × Nat), j < i → (G kd).ents[j]? = some p → p.1 ≠ s) (hok : okN (bs sa) = true) (hbe : ¬ (m.kind = 1 ∧ IT.Bel T kx kb)) {kw j : Nat} (hfa : IT.findN (bs sa) q.names = some kw) (hj : (G kb).ents[j]? = some (sa, kw)) (hj2 : ∀ (l : Nat) (p : ByteArray × Nat), l < j → (G kb).ents[l]? = some p → p.1 ≠ sa) {mw : IT.Nd} (hwx : kw ≠ kx) (hw : T kw = some mw) (hkk : mw.kind = 1 ↔ m.kind = 1) (hmw : mw.names = []) :
    Calls Try.prog 67 #[.pointer (some ⟨t, 0, none⟩), .int .i64 (kd : Int), .string s, .int .i64 (kb : Int), .string sa] w fun e w' => e = .returned (.int .i64 0) ∧ Stf w t B (fun T' => IT.isMove okN T kd (bs s) kb (bs sa) 0 T') w' := by
  have HI1 := Lib.hid (rf_is_yes h (kd : Int) hd)
  have HI2 := Lib.hid (rf_is_yes h (kb : Int) hq)
  obtain ⟨hd1, hd2⟩ := h.snd.1.rng kd n hd
  obtain ⟨hb1, hb2⟩ := h.snd.1.rng kb q hq
  have c0 := h.rep.cellT
  have b1 := h.rep.c1 kd hd2
  rw [(h.ties.sok kd n hd).kind] at b1
  have y1 := h.rep.c1 kb hb2
  rw [(h.ties.sok kb q hq).kind] at y1
  rw [hk] at b1
  rw [hkb] at y1
  obtain ⟨hx1, hx2⟩ := h.snd.1.rng kx m hx
  have HA := Lib.hid (rf_at_some h.rep kd hd2 s hi hi2)
  have HN := Lib.hid (rname_ok sa w)
  rw [hok] at HN
  have b9 := h.rep.c9 kd hd2
  obtain ⟨a, cap, hs, hl1, hl2, hl3⟩ := (h.rep.ents kd hd2).lit
  rw [hs] at b9
  obtain ⟨g, rfl, f1, f2⟩ := hl3 i _ hi
  have hil : i < (G kd).ents.length := (List.getElem?_eq_some_iff.1 hi).1
  have hl40 : (G kd).ents.length ≤ 40 := h.ties.few h.snd.1 kd hd2
  have x1 := h.rep.c1 kx hx2
  rw [(h.ties.sok kx m hx).kind] at x1
  have y9 := h.rep.c9 kb hb2
  obtain ⟨ay, capy, hsy, _, _, hl3y⟩ := (h.rep.ents kb hb2).lit
  rw [hsy] at y9
  have hly40 : (G kb).ents.length ≤ 40 := h.ties.few h.snd.1 kb hb2
  have hly : q.names.length = (G kb).ents.length := by have := (h.ties.sok kb q hq).names.length_eq; unfold ents at this; rw [List.length_map] at this; exact this.symm
  have HA2 := Lib.hid (rf_at_some h.rep kb hb2 sa hj hj2)
  obtain ⟨gy, rfl, f1y, f2y⟩ := hl3y j _ hj
  have hjl : j < (G kb).ents.length := (List.getElem?_eq_some_iff.1 hj).1
  obtain ⟨hw1, hw2⟩ := h.snd.1.rng kw mw hw
  have w1 := h.rep.c1 kw hw2
  rw [(h.ties.sok kw mw hw).kind] at w1
  have z4 : ((kw : Int) == (kx : Int)) = false := by simpa using (show ¬ (kw : Int) = (kx : Int) by omega)
  have m1 : kx < 201 := by omega
  have m2 : (kx : Int) < 201 := by omega
  have m3 : kw < 201 := by omega
  have m4 : (kw : Int) < 201 := by omega
  have w9 := h.rep.c9 kw hw2
  obtain ⟨aw, capw, hsw, _, _, _⟩ := (h.rep.ents kw hw2).lit
  rw [hsw] at w9
  have hlw : (G kw).ents.length = 0 := by have := (h.ties.sok kw mw hw).names.length_eq; unfold ents at this; rw [List.length_map, hmw] at this; exact this
  rw [hlw] at w9
  obtain ⟨hxd, hxb, hxr⟩ := IT.move_ne h.snd hd hq hk hkb hf hx hok hbe
  have x6 := h.rep.c6 kx hx2
  rw [(h.ties.sok kx m hx).holds] at x6
  have s6 := h.rep.frozen (kx * 10 + 6)
  have hle : (m.holds : Int) ≤ 1000000 := by have := hb kx m hx; omega
  have hkx := h.ties.sok kx m hx
  have ht1 := h.ties.set kx (n := { G kx with holds := (m.holds : Int) + 1 }) (m := { m with holds := m.holds + 1 }) ⟨hkx.is, hkx.kind, hkx.mode, hkx.owner, hkx.group, hkx.tty, rfl, hkx.parent, hkx.data, hkx.names⟩
  have e1d : (updG G kx { G kx with holds := (m.holds : Int) + 1 }) kd = G kd := updG_other _ _ (Ne.symm hxd)
  have e1b : (updG G kx { G kx with holds := (m.holds : Int) + 1 }) kb = G kb := updG_other _ _ (Ne.symm hxb)
  obtain ⟨q1, hq1, hq1k, hq1e, gx1, hwb, hwd, gx2, gx3, sd2, gx4, gx5⟩ := IT.move_over h.snd hd hq hk hkb hf hx hok hbe hfa hwx hw hmw
  clear gx1 gx2 gx3 gx4 gx5
  obtain ⟨TF, hTF⟩ : ∃ TF, IT.entT (IT.delT (IT.delT T kd kx (bs s) n m) kb kw (bs sa) q1 mw) kb kx (bs sa) { q1 with names := IT.delN (bs sa) q1.names } (IT.alone kx m) = TF := ⟨_, rfl⟩
  have hmv : ∀ T', IT.NF TF T' → IT.isMove okN T kd (bs s) kb (bs sa) 0 T' := fun T' hnf => by
    unfold IT.isMove
    rw [hd, hq]
    dsimp only
    rw [if_neg (fun hh => hh.elim (fun e => e hk) (fun e => e hkb)), hf]
    dsimp only
    refine ⟨m, hx, ?_⟩
    rw [if_neg (by rw [hok]; intro e; cases e), if_neg hbe, hfa]
    dsimp only
    rw [if_neg hwx]
    refine ⟨mw, hw, ?_⟩
    rw [if_neg (not_not_intro hkk), if_neg (fun e => e hmw)]
    exact ⟨rfl, q1, _, _, hq1, IT.del_at_d, (IT.del_at hxb (Ne.symm hwx)).trans (IT.del_at_x hxd), by rw [hTF]; exact hnf⟩
  rw [hTF] at sd2
  have HEND : Hid (∀ G5 w5, Rf w5 t B G5 → Tie G5 TF → Mo B w w5 → Calls Try.prog 83 #[.pointer (some ⟨t, 0, none⟩)] w5 fun e w' => e = .returned (.tuple #[]) ∧ Stf w t B (fun T' => IT.isMove okN T kd (bs s) kb (bs sa) 0 T') w') := Lib.hid (fun G5 w5 hr ht hm => (rf_gone hr ht sd2).mono (by
    rintro e w' ⟨rfl, hs⟩
    exact ⟨rfl, (Stf.pre hm hs).imp hmv⟩))
  have hoq := h.snd.1.ord kb q hq
  have hnq : kd = kb → n = q := fun e => by subst e; rw [hd] at hq; exact Option.some.inj hq
  have hns : bs s ≠ bs sa ∨ kd ≠ kb := by
    by_cases e : kd = kb
    · refine .inl fun e2 => hwx ?_
      have := hnq e
      subst this
      rw [e2, hfa] at hf
      exact Option.some.inj hf
    · exact .inr e
  have hna0 : ∃ na, (IT.upd (IT.upd (IT.upd T kx (some { m with holds := m.holds + 1 })) kw (some (IT.alone kw mw))) kb (some { q with names := IT.delN (bs sa) q.names })) kd = some na ∧ (na = if kd = kb then { q with names := IT.delN (bs sa) q.names } else n) ∧ IT.Ord na.names ∧ IT.findN (bs s) na.names = some kx := by
    by_cases e : kd = kb
    · refine ⟨_, upd_eq e, (if_pos e).symm, IT.ord_del hoq _, IT.find_of (IT.ord_del hoq _) (List.mem_filter.2 ⟨?_, ?_⟩)⟩
      · have := hnq e
        subst this
        exact IT.find_mem hf
      · simpa using hns.resolve_right (fun hh => hh e)
    · exact ⟨n, by rw [upd_ne e, upd_ne (Ne.symm hwd), upd_ne (Ne.symm hxd)]; exact hd, (if_neg e).symm, h.snd.1.ord kd n hd, hf⟩
  obtain ⟨na, hna, hnae, hoa, hfn⟩ := hna0
  have hqb0 : ∃ qb, (IT.upd (IT.upd (IT.upd (IT.upd T kx (some { m with holds := m.holds + 1 })) kw (some (IT.alone kw mw))) kb (some { q with names := IT.delN (bs sa) q.names })) kd (some { na with names := IT.delN (bs s) na.names })) kb = some qb ∧ qb = if kd = kb then { na with names := IT.delN (bs s) na.names } else { q with names := IT.delN (bs sa) q.names } := by
    by_cases e : kd = kb
    · exact ⟨_, upd_eq e.symm, (if_pos e).symm⟩
    · exact ⟨_, by rw [upd_ne (Ne.symm e), upd_eq rfl], (if_neg e).symm⟩
  obtain ⟨qb, hqb, hqbe⟩ := hqb0
  have HFX0 := move_eq_some (S := T) (mh := (some { m with holds := m.holds + 1 })) (nm := bs s) (ns := bs sa) (m := m) (mw := mw) hxd hxb hwx hwd hwb hnq hnae hqbe hq1e
  rw [hTF] at HFX0
  have hx3 : (IT.upd (IT.upd (IT.upd (IT.upd (IT.upd T kx (some { m with holds := m.holds + 1 })) kw (some (IT.alone kw mw))) kb (some { q with names := IT.delN (bs sa) q.names })) kd (some { na with names := IT.delN (bs s) na.names })) kb (some { qb with names := IT.insN (bs sa) kx qb.names })) kx = (some { m with holds := m.holds + 1 }) := by
    rw [upd_ne hxb, upd_ne hxd, upd_ne hxb, upd_ne (Ne.symm hwx), upd_eq rfl]
  have hqT : (IT.upd (IT.upd T kx (some { m with holds := m.holds + 1 })) kw (some (IT.alone kw mw))) kb = some q := by rw [upd_ne (Ne.symm hwb), upd_ne (Ne.symm hxb)]; exact hq
  have hwT : (IT.upd T kx (some { m with holds := m.holds + 1 })) kw = some mw := by rw [upd_ne hwx]; exact hw
  have h4a : (updG G kx { G kx with holds := (m.holds : Int) + 1 } kd).ents.length ≤ 40 := by rw [e1d]; exact hl40
  have h4b : (updG G kx { G kx with holds := (m.holds : Int) + 1 } kb).ents.length ≤ 40 := by rw [e1b]; exact hly40
  have hj1 : (updG G kx { G kx with holds := (m.holds : Int) + 1 } kb).ents[j]? = some (sa, kw) := by rw [e1b]; exact hj
  have hL3 : ((G kb).ents.length : Int) - 1 < 40 := by omega
  have hL4 : (1 : Int) ≤ (G kb).ents.length := by omega
  have hrfq : ∀ k, Rf ((w.drewN k).setCell ⟨B, kx * 10 + 6, none⟩ (.int .i64 ((m.holds : Int) + 1))) t B (updG G kx { G kx with holds := (m.holds : Int) + 1 }) := fun k =>
    (h.rep.below (belowDrewN (Below.refl _ _) k)).set hx2 (show 6 < 10 by omega) (.int .i64 ((m.holds : Int) + 1)) { G kx with holds := (m.holds : Int) + 1 } rfl ((h.rep.below (belowDrewN (Below.refl _ _) k)).ents kx hx2)
  have hmoq : ∀ k, Mo B w ((w.drewN k).setCell ⟨B, kx * 10 + 6, none⟩ (.int .i64 ((m.holds : Int) + 1))) := fun k => (Mo.of (belowDrewN (Below.refl _ _) k)).set _
  obtain ⟨G1, hG1⟩ : ∃ G1, updG G kx { G kx with holds := (m.holds : Int) + 1 } = G1 := ⟨_, rfl⟩
  rw [hG1] at ht1 h4a h4b hj1
  rw [hG1] at hrfq
  have HRFq := Lib.hid hrfq
  have HMq := Lib.hid hmoq
  have HT1 := Lib.hid ht1
  have HNa := Lib.hid hna
  have HOa := Lib.hid hoa
  have HFa := Lib.hid hfn
  have H4c := Lib.hid h4a
  have H4d := Lib.hid h4b
  have HJ := Lib.hid hj1
  have HQB := Lib.hid hqb
  have HX3 := Lib.hid hx3
  have HOQ := Lib.hid hoq
  have HQT := Lib.hid hqT
  have HWT := Lib.hid hwT
  have HFAA := Lib.hid hfa
  have HWB := Lib.hid hwb
  generalize (G kd).ents.length = L0 at *
  generalize (G kb).ents.length = Ly at *
  clear hrfq hmoq ht1 hna hoa h4a h4b hqb hx3 hTF hmv hqbe hq1 hq1k hq1e hkx e1d e1b hG1 hxd hxb hxr hfa hly hl1 hl2 hl3 hs f1 hsy hl3y hi hi2 sd2 hnq hns hnae hfn hoq hqT hwT hj1 hj hj2 f1y hsw hlw hwb hwd hmw hwx
  by_cases hmk : m.kind = 1
  case' pos =>
    have hkw : mw.kind = 1 := hkk.2 hmk
    rw [hkw] at w1
    have HFX : Hid (IT.upd (IT.upd (IT.upd (IT.upd (IT.upd (IT.upd T kx (some { m with holds := m.holds + 1 })) kw (some (IT.alone kw mw))) kb (some { q with names := IT.delN (bs sa) q.names })) kd (some { na with names := IT.delN (bs s) na.names })) kb (some { qb with names := IT.insN (bs sa) kx qb.names })) kx (some { m with parent := kb }) = TF) := Lib.hid (by
      rw [← HFX0]; unfold IT.under; rw [if_pos hmk])
    have HKD := Lib.hid hmk
    have HKW := Lib.hid hkw
    have hbe := fun hh => hbe ⟨hmk, hh⟩
    have HWI : Hid (Calls Try.prog 87 #[.pointer (some ⟨t, 0, none⟩), .int .i64 (kb : Int), .int .i64 (kx : Int)] w fun e w' => e = .returned (.bool false) ∧ w = w') := Lib.hid ((rf_within h kb kx hq hkb).mono (by
      rintro e w' ⟨c, rfl, hc, rfl⟩
      cases c with
      | false => exact ⟨rfl, rfl⟩
      | true => exact absurd (hc.1 rfl) hbe))
    rw [hmk] at x1
    clear h hd hq hk hkb hf hx hok hmk hbe HFX0 hb hw hkk hkw
    go_enter Try.func67, Try.ntmps67
    go_wp2_with fail
    refine HI1.out.mono ?_
    rintro e wz ⟨rfl, rfl⟩
    go_wp2_with fail
    refine HI2.out.mono ?_
    rintro e wz ⟨rfl, rfl⟩
    go_wp2_with fail
    refine HA.out.mono ?_
    rintro e wz ⟨rfl, rfl⟩
    go_wp2_with fail
    refine HN.out.mono ?_
    rintro e wz ⟨rfl, rfl⟩
    go_wp2_with fail
    refine HWI.out.mono ?_
    rintro e wz ⟨rfl, rfl⟩
    go_wp2_with fail
    refine HA2.out.mono ?_
    rintro e wz ⟨rfl, rfl⟩
    go_upto_region 23 with fail
    go_quiet (fail)
    rename_i nq
    go_upto_region 28 with fail
    generalize (Ly : Int) - 1 = r at *
    have hLC : (40 ≤ r) = False := eq_false (by omega)
    have hLD : (r ≥ 40) = False := eq_false (by omega)
    go_upto_region 31 with fail
  case' neg =>
    have z6 : (mw.kind == 1) = false := by
      have : ¬ mw.kind = 1 := fun e => hmk (hkk.1 e)
      simpa using this
    have HFX : Hid (IT.upd (IT.upd (IT.upd (IT.upd (IT.upd (IT.upd T kx (some { m with holds := m.holds + 1 })) kw (some (IT.alone kw mw))) kb (some { q with names := IT.delN (bs sa) q.names })) kd (some { na with names := IT.delN (bs s) na.names })) kb (some { qb with names := IT.insN (bs sa) kx qb.names })) kx (some m) = TF) := Lib.hid (by
      rw [← HFX0]; unfold IT.under; rw [if_neg hmk])
    have HNW : Hid (¬ mw.kind = 1) := Lib.hid (fun e => hmk (hkk.1 e))
    have z2 : (m.kind == 1) = false := by simpa using hmk
    clear h hd hq hk hkb hf hx hok hmk hbe HFX0 hb hw hkk
    go_enter Try.func67, Try.ntmps67
    go_wp2_with fail
    refine HI1.out.mono ?_
    rintro e wz ⟨rfl, rfl⟩
    go_wp2_with fail
    refine HI2.out.mono ?_
    rintro e wz ⟨rfl, rfl⟩
    go_wp2_with fail
    refine HA.out.mono ?_
    rintro e wz ⟨rfl, rfl⟩
    go_wp2_with fail
    refine HN.out.mono ?_
    rintro e wz ⟨rfl, rfl⟩
    go_wp2_with fail
    refine HA2.out.mono ?_
    rintro e wz ⟨rfl, rfl⟩
    go_upto_region 23 with fail
    go_quiet (fail)
    rename_i nq
    go_upto_region 28 with fail
    generalize (Ly : Int) - 1 = r at *
    have hLC : (40 ≤ r) = False := eq_false (by omega)
    have hLD : (r ≥ 40) = False := eq_false (by omega)
    go_upto_region 31 with fail
  all_goals
    clear c0 b1 y1 x1 b9 y9 x6 s6 f2 w1 w9 f2y
    have hrf := HRFq.out nq
    have hmo := HMq.out nq
    clear HRFq HMq
    generalize (w.drewN nq).setCell ⟨B, kx * 10 + 6, none⟩ (.int .i64 ((m.holds : Int) + 1)) = W1 at *
    have c0 := hrf.cellT
    have y9 := hrf.c9 kb hb2
    obtain ⟨ay, capy, hsy, _, _, hl3y⟩ := (hrf.ents kb hb2).lit
    rw [hsy] at y9
    obtain ⟨gy, rfl, _, f2y⟩ := hl3y j _ HJ.out
    have hjl1 : j < (G1 kb).ents.length := (List.getElem?_eq_some_iff.1 HJ.out).1
    have hjl2 := H4d.out
    obtain ⟨L1, hL1⟩ : ∃ L1, (G1 kb).ents.length = L1 := ⟨_, rfl⟩
    rw [hL1] at y9 hjl1 hjl2
    have w1 := hrf.c1 kw hw2
    rw [(HT1.out.sok kw mw HWT.out).kind] at w1
    clear hsy hl3y hL1
  case' pos =>
    rw [HKW.out] at w1
    have s7 := hrf.frozen (kw * 10 + 7)
    have w7 := hrf.c7 kw hw2
    have HRFp := Lib.hid (hrf.set hw2 (show 7 < 10 by omega) (.int .i64 (kw : Int)) { G1 kw with parent := (kw : Int) } rfl (hrf.ents kw hw2))
    have HMp := Lib.hid (hmo.set (i := kw * 10 + 7) (.int .i64 (kw : Int)))
    have htb := HT1.out.par HWT.out HKW.out kw
    have hex : ({ mw with parent := kw } : IT.Nd) = IT.alone kw mw := by unfold IT.alone; rw [if_pos HKW.out]
    rw [hex] at htb
    have eb : (updG G1 kw { G1 kw with parent := (kw : Int) }) kb = G1 kb := updG_other _ _ (Ne.symm HWB.out)
    have h4c : ((updG G1 kw { G1 kw with parent := (kw : Int) }) kd).ents.length ≤ 40 := by
      by_cases e : kd = kw
      · subst e; rw [updG_same]; exact H4c.out
      · rw [updG_other _ _ e]; exact H4c.out
    have h4d := H4d.out
    have hj1 := HJ.out
    rw [← eb] at h4d hj1
    clear hrf hmo
    have HTb0 := Lib.hid htb
    have H4e := Lib.hid h4c
    have H4f := Lib.hid h4d
    have HJ1 := Lib.hid hj1
    clear htb h4c h4d hj1 eb hex
    go_wp2_with fail
    have hrfb := HRFp.out
    have hmob := HMp.out
    clear c0 y9 f2y w1 w7 s7 HRFp HMp
    generalize W1.setCell ⟨B, kw * 10 + 7, none⟩ (.int .i64 (kw : Int)) = Wb at *
    obtain ⟨Gb, hGb⟩ : ∃ Gb, updG G1 kw { G1 kw with parent := (kw : Int) } = Gb := ⟨_, rfl⟩
    have htb := HTb0.out
    have h4c := H4e.out
    have h4d := H4f.out
    have hj1 := HJ1.out
    rw [hGb] at hrfb htb h4c h4d hj1
    clear hGb HTb0 H4e H4f HJ1 HT1 HJ H4c H4d
  case' neg =>
    have HRFp := Lib.hid hrf
    have HMp := Lib.hid hmo
    clear hrf hmo
    go_wp2_with fail
    have hrfb := HRFp.out
    have hmob := HMp.out
    have htb := HT1.out
    have hex : IT.upd (IT.upd T kx (some { m with holds := m.holds + 1 })) kw (some (IT.alone kw mw)) = IT.upd T kx (some { m with holds := m.holds + 1 }) := by
      unfold IT.alone; rw [if_neg HNW.out]; exact upd_self HWT.out
    rw [← hex] at htb
    have h4c := H4c.out
    have h4d := H4d.out
    have hj1 := HJ.out
    clear c0 y9 f2y w1 HRFp HMp hex HT1 HJ H4c H4d
    generalize G1 = Gb at *
  all_goals
    have HRFb := Lib.hid hrfb
    have HMb := Lib.hid hmob
    have HTb := Lib.hid htb
    have H4g := Lib.hid h4c
    have H4h := Lib.hid h4d
    have HJ2 := Lib.hid hj1
    clear hrfb hmob htb h4c h4d hj1
    refine (rf_without HRFb.out kb j hb2 (List.getElem?_eq_some_iff.1 HJ2.out).1 H4h.out).mono ?_
    rintro e Wa ⟨rfl, va, hrfa, hmoa⟩
    have hta := HTb.out.less2 HOQ.out HQT.out sa va HJ2.out HFAA.out
    have HMa := Lib.hid (HMb.out.trans hmoa)
    have h4a := less_few (d := kb) (i := j) (v := va) kd H4g.out
    have h4b := less_few (d := kb) (i := j) (v := va) kb H4h.out
    obtain ⟨Ga, hGa⟩ : ∃ Ga, updG Gb kb { Gb kb with sl := va, ents := (Gb kb).ents.take j ++ (Gb kb).ents.drop (j + 1) } = Ga := ⟨_, rfl⟩
    rw [hGa] at hrfa hta h4a h4b
    have HRFa := Lib.hid hrfa
    have HTa := Lib.hid hta
    have H4a := Lib.hid h4a
    have H4b := Lib.hid h4b
    clear hrfa hmoa hta h4a h4b hGa
    clear HJ2 H4g H4h HMb HRFb HTb
    go_wp2_with fail
    obtain ⟨i2, hi3, hi4⟩ := HTa.out.find2 HNa.out HOa.out HFa.out
    refine (rf_at_some HRFa.out kd hd2 s hi3 hi4).mono ?_
    rintro e wz ⟨rfl, rfl⟩
    have HLB := Lib.hid (fun (v : Value) => less_few (G := Ga) (d := kd) (i := i2) (v := v) kb H4b.out)
    have HT2 := Lib.hid (fun v => HTa.out.less2 HOa.out HNa.out s v hi3 HFa.out)
    have hwo := rf_without HRFa.out kd i2 hd2 (List.getElem?_eq_some_iff.1 hi3).1 H4a.out
    clear hi3 hi4
    have HWO := Lib.hid hwo
    clear hwo
    go_wp2_with fail
    refine HWO.out.mono ?_
    rintro e W2 ⟨rfl, v2, hrf, hmo2⟩
    have HM1 := Lib.hid (HMa.out.trans hmo2)
    have ht2 := HT2.out v2
    have hl40 := HLB.out v2
    obtain ⟨G2, hG2⟩ : ∃ G2, updG Ga kd { Ga kd with sl := v2, ents := (Ga kd).ents.take i2 ++ (Ga kd).ents.drop (i2 + 1) } = G2 := ⟨_, rfl⟩
    rw [hG2] at hrf ht2 hl40
    have HTI2 := Lib.hid ht2
    clear hG2 hmo2 ht2
    go_upto_region 37 with fail
    obtain ⟨i0, hi0, hz0, hz1, hz2⟩ := info_parts info_entry
    have HT3 := Lib.hid (fun v => HTI2.out.more HQB.out (x := kx) sa v)
    obtain ⟨E, hE1⟩ : ∃ E, (G2 kb).ents = E := ⟨_, rfl⟩
    obtain ⟨a, cap, hs1, _, _, _⟩ := (hrf.ents kb hb2).lit
    obtain ⟨L, hL⟩ : ∃ L, E.length = L := ⟨_, rfl⟩
    rw [hE1, hL] at hs1
    rw [hE1, hL] at hl40
    have hL2 : L < 41 := by omega
    have HLE := Lib.hid hL
    have HG := Lib.hid hE1
    have HRF := Lib.hid hrf
    have hBL := hrf.ltB
    have hTL := hrf.ltT
    have hTB := hrf.ne
    have c0 := hrf.cellT
    have b9 := hrf.c9 kb hb2
    rw [hs1] at b9
    have C9 := Lib.hid b9
    have s9 := hrf.frozen (kb * 10 + 9)
    have HSRC : Hid (∀ W', Mo B W2 W' → W'.ownsRow 0 126 2 (.slice a L cap) L (flatE E)) := Lib.hid (fun W' hm => by
      have := EntAt.mo HRF.out (HRF.out.ents kb hb2) hm
      unfold EntAt at this
      rw [hs1, hE1, HLE.out] at this
      rw [← HLE.out] at this ⊢
      exact this)
    have n1 : kb < 201 := by omega
    have n2 : (kb : Int) < 201 := by omega
    clear hrf hs1 hE1 hL hl40
    refine wp_region_held_drew (S := (fun W' => Mo B W2 W' ∧ W'.cell? ⟨t, 0, none⟩ = some (.slice (some ⟨B, 0, none⟩) 201 201) ∧ W'.frozen? ⟨B, kb * 10 + 9, none⟩ = false)) (by kernel_rfl) (Sy.below (Below.refl _ _).drew hTL hBL (Sy.start HRF.out _)) (fun hHeld => ?_)
    refine wpAnyH_take (i := 0) (v := ?_) rfl (by kernel_rfl) (by kernel_rfl) (by kernel_rfl) (fun _ _ _ h => h) (Or.inl ⟨by rfl, ?_⟩) (by assumption) ?_
    rotate_left
    · (intro W hSw; (try dsimp only at hSw); go_simp; try with_reducible rfl)
    try simp only [List.getElem_toArray, List.getElem_cons_zero, List.getElem_cons_succ, Act.put, List.setIfInBounds_toArray, List.set_cons_zero, List.set_cons_succ]
    refine wpAnyH_take (i := 1) (v := ?_) rfl (by kernel_rfl) (by kernel_rfl) (by kernel_rfl) (fun _ _ _ h => h) (Or.inl ⟨by rfl, ?_⟩) (by assumption) ?_
    rotate_left
    · (intro W hSw; (try dsimp only at hSw); go_simp; try with_reducible rfl)
    try simp only [List.getElem_toArray, List.getElem_cons_zero, List.getElem_cons_succ, Act.put, List.setIfInBounds_toArray, List.set_cons_zero, List.set_cons_succ]
    refine wpAnyH_take (i := 2) (v := ?_) rfl (by kernel_rfl) (by kernel_rfl) (by kernel_rfl) (fun _ _ _ h => h) (Or.inl ⟨by rfl, ?_⟩) (by assumption) ?_
    rotate_left
    · (intro W hSw; (try dsimp only at hSw); go_simp; try with_reducible rfl)
    try simp only [List.getElem_toArray, List.getElem_cons_zero, List.getElem_cons_succ, Act.put, List.setIfInBounds_toArray, List.set_cons_zero, List.set_cons_succ]
    refine wpAnyH_take (i := 3) (v := ?_) rfl (by kernel_rfl) (by kernel_rfl) (by kernel_rfl) (fun _ _ _ h => h) (Or.inl ⟨by rfl, ?_⟩) (by assumption) ?_
    rotate_left
    · (intro W hSw; (try dsimp only at hSw); go_simp; try with_reducible rfl)
    try simp only [List.getElem_toArray, List.getElem_cons_zero, List.getElem_cons_succ, Act.put, List.setIfInBounds_toArray, List.set_cons_zero, List.set_cons_succ]
    refine wpAnyH_take (i := 4) (v := ?_) rfl (by kernel_rfl) (by kernel_rfl) (by kernel_rfl) (fun _ _ _ h => h) (Or.inl ⟨by rfl, ?_⟩) (by assumption) ?_
    rotate_left
    · (intro W hSw; (try dsimp only at hSw); go_simp; try with_reducible rfl)
    try simp only [List.getElem_toArray, List.getElem_cons_zero, List.getElem_cons_succ, Act.put, List.setIfInBounds_toArray, List.set_cons_zero, List.set_cons_succ]
    refine wpAnyH_take (i := 6) (v := ?_) rfl (by kernel_rfl) (by kernel_rfl) (by kernel_rfl) (fun _ _ _ h => h) (Or.inl ⟨by rfl, ?_⟩) (by assumption) ?_
    rotate_left
    · (intro W hSw; (try dsimp only at hSw); go_simp; try with_reducible rfl)
    try simp only [List.getElem_toArray, List.getElem_cons_zero, List.getElem_cons_succ, Act.put, List.setIfInBounds_toArray, List.set_cons_zero, List.set_cons_succ]
    refine wpAnyH_take (i := 7) (v := ?_) rfl (by kernel_rfl) (by kernel_rfl) (by kernel_rfl) (fun _ _ _ h => h) (Or.inl ⟨by rfl, ?_⟩) (by assumption) ?_
    rotate_left
    · (intro W hSw; (try dsimp only at hSw); go_simp; try with_reducible rfl)
    try simp only [List.getElem_toArray, List.getElem_cons_zero, List.getElem_cons_succ, Act.put, List.setIfInBounds_toArray, List.set_cons_zero, List.set_cons_succ]
    refine wpAnyH_take (i := 8) (v := ?_) rfl (by kernel_rfl) (by kernel_rfl) (by kernel_rfl) (fun _ _ _ h => h) (Or.inl ⟨by rfl, ?_⟩) (by assumption) ?_
    rotate_left
    · (intro W hSw; (try dsimp only at hSw); go_simp; try with_reducible rfl)
    try simp only [List.getElem_toArray, List.getElem_cons_zero, List.getElem_cons_succ, Act.put, List.setIfInBounds_toArray, List.set_cons_zero, List.set_cons_succ]
    refine wpAnyH_take (i := 9) (v := ?_) rfl (by kernel_rfl) (by kernel_rfl) (by kernel_rfl) (fun _ _ _ h => h) (Or.inl ⟨by rfl, ?_⟩) (by assumption) ?_
    rotate_left
    · (intro W hSw; (try dsimp only at hSw); go_simp; try with_reducible rfl)
    try simp only [List.getElem_toArray, List.getElem_cons_zero, List.getElem_cons_succ, Act.put, List.setIfInBounds_toArray, List.set_cons_zero, List.set_cons_succ]
    refine wpAnyH_take (i := 10) (v := ?_) rfl (by kernel_rfl) (by kernel_rfl) (by kernel_rfl) (fun _ _ _ h => h) (Or.inl ⟨by rfl, ?_⟩) (by assumption) ?_
    rotate_left
    · (intro W hSw; (try dsimp only at hSw); go_simp; try with_reducible rfl)
    try simp only [List.getElem_toArray, List.getElem_cons_zero, List.getElem_cons_succ, Act.put, List.setIfInBounds_toArray, List.set_cons_zero, List.set_cons_succ]
    refine wpAnyH_take (i := 11) (v := ?_) rfl (by kernel_rfl) (by kernel_rfl) (by kernel_rfl) (fun _ _ _ h => h) (Or.inl ⟨by rfl, ?_⟩) (by assumption) ?_
    rotate_left
    · (intro W hSw; (try dsimp only at hSw); go_simp; try with_reducible rfl)
    try simp only [List.getElem_toArray, List.getElem_cons_zero, List.getElem_cons_succ, Act.put, List.setIfInBounds_toArray, List.set_cons_zero, List.set_cons_succ]
    refine wpAnyH_take (i := 12) (v := ?_) rfl (by kernel_rfl) (by kernel_rfl) (by kernel_rfl) (fun _ _ _ h => h) (Or.inl ⟨by rfl, ?_⟩) (by assumption) ?_
    rotate_left
    · (intro W hSw; (try dsimp only at hSw); go_simp; try with_reducible rfl)
    try simp only [List.getElem_toArray, List.getElem_cons_zero, List.getElem_cons_succ, Act.put, List.setIfInBounds_toArray, List.set_cons_zero, List.set_cons_succ]
    refine wpAnyH_take (i := 15) (v := ?_) rfl (by kernel_rfl) (by kernel_rfl) (by kernel_rfl) (fun _ _ _ h => h) (Or.inl ⟨by rfl, ?_⟩) (by assumption) ?_
    rotate_left
    · (intro W hSw; (try dsimp only at hSw); go_simp; try with_reducible rfl)
    try simp only [List.getElem_toArray, List.getElem_cons_zero, List.getElem_cons_succ, Act.put, List.setIfInBounds_toArray, List.set_cons_zero, List.set_cons_succ]
    refine wpAnyH_take (i := 16) (v := ?_) rfl (by kernel_rfl) (by kernel_rfl) (by kernel_rfl) (fun _ _ _ h => h) (Or.inl ⟨by rfl, ?_⟩) (by assumption) ?_
    rotate_left
    · (intro W hSw; (try dsimp only at hSw); go_simp; try with_reducible rfl)
    try simp only [List.getElem_toArray, List.getElem_cons_zero, List.getElem_cons_succ, Act.put, List.setIfInBounds_toArray, List.set_cons_zero, List.set_cons_succ]
    refine wpAnyH_take (i := 17) (v := ?_) rfl (by kernel_rfl) (by kernel_rfl) (by kernel_rfl) (fun _ _ _ h => h) (Or.inl ⟨by rfl, ?_⟩) (by assumption) ?_
    rotate_left
    · (intro W hSw; (try dsimp only at hSw); go_simp; try with_reducible rfl)
    try simp only [List.getElem_toArray, List.getElem_cons_zero, List.getElem_cons_succ, Act.put, List.setIfInBounds_toArray, List.set_cons_zero, List.set_cons_succ]
    refine wpAnyH_ready (rs := [5, 13, 18]) (by kernel_rfl) (by simp) ?_
    refine AllReadyH.cons rfl (fun K hK => ?_) ?_
    · simp only [List.getElem_toArray, List.getElem_cons_zero, List.getElem_cons_succ]
      go_simp
      refine hK.out _ _ ?_ (fun hHeld => ?_)
      · (try dsimp only); exact Sy.below ((Below.refl _ _).alloc (‹Mo B W2 _ ∧ _›).1.size _) hTL hBL ‹Mo B W2 _ ∧ _›
      clear hK K
      try simp only [List.getElem_toArray, List.getElem_cons_zero, List.getElem_cons_succ, Act.put, List.setIfInBounds_toArray, List.set_cons_zero, List.set_cons_succ]
      refine wpAnyH_ready (rs := [13, 18]) (by kernel_rfl) (by simp) ?_
      refine AllReadyH.cons rfl (fun K hK => ?_) ?_
      · simp only [List.getElem_toArray, List.getElem_cons_zero, List.getElem_cons_succ]
        go_simp
        refine hK.out _ _ ?_ (fun hHeld => ?_)
        · (try dsimp only); assumption
        clear hK K
        try simp only [List.getElem_toArray, List.getElem_cons_zero, List.getElem_cons_succ, Act.put, List.setIfInBounds_toArray, List.set_cons_zero, List.set_cons_succ]
        refine wpAnyH_ready (rs := [14, 18]) (by kernel_rfl) (by simp) ?_
        refine AllReadyH.cons rfl (fun K hK => ?_) ?_
        · refine step_app_row2 rfl (.tmp 217) (.tmp 225) 108 rfl W2.heap.size 126 i0 (.agg #[.string ⟨#[]⟩, .int .i64 0]) 24 Try.underlying108 hi0 hz0 hz1 hz2 rfl (.slice (some ⟨W2.heap.size, 0, none⟩) 0 0) 0 [] ?_ ?_ 0 (.slice a L cap) L (flatE E) ?_ ?_ ?_ ?_ ?_ ?_ ?_
          · simp [Act.eval, Act.put]; done
          · exact (own_empty _ _ _ _ rfl (Nat.le_refl _)).drew
          · simp [Act.eval, Act.put]; done
          · exact HSRC.out _ (‹Mo B W2 _ ∧ _›).1
          · exact fun u hu => flatE_one _ u hu
          · unfold maxLen; omega
          · omega
          · exact (‹Mo B W2 _ ∧ _›).1.size
          intro v5 w5 hown5 hgrow5 hbel5
          have hm5 : Mo B W2 w5 := (‹Mo B W2 _ ∧ _›).1.grow hbel5
          have hq5 : w5.heap[B]? = W2.heap[B]? := (hbel5.block B hBL).trans (Below.block (((Below.refl W2.heap.size W2).drew).alloc (Nat.le_refl _) _) B hBL)
          refine hK.out _ _ ?_ (fun hHeld => ?_)
          · (try dsimp only); exact Sy.below hbel5 hTL hBL ‹Mo B W2 _ ∧ _›
          clear hK K
          try simp only [List.getElem_toArray, List.getElem_cons_zero, List.getElem_cons_succ, Act.put, List.setIfInBounds_toArray, List.set_cons_zero, List.set_cons_succ]
          refine wpAnyH_ready (rs := [18]) (by kernel_rfl) (by simp) ?_
          refine AllReadyH.cons rfl (fun K hK => ?_) AllReadyH.nil
          simp only [List.getElem_toArray, List.getElem_cons_zero, List.getElem_cons_succ]
          go_simp
          refine hK.out _ _ ?_ (fun hHeld => ?_)
          · (try dsimp only); exact Sy.below ((Below.refl _ _).alloc (‹Mo B W2 _ ∧ _›).1.size _) hTL hBL ‹Mo B W2 _ ∧ _›
          clear hK K
          try simp only [List.getElem_toArray, List.getElem_cons_zero, List.getElem_cons_succ, Act.put, List.setIfInBounds_toArray, List.set_cons_zero, List.set_cons_succ]
          refine wpAnyH_ready (rs := [19]) (by kernel_rfl) (by simp) ?_
          refine AllReadyH.cons rfl (fun K hK => ?_) AllReadyH.nil
          refine step_app_row2 rfl (.tmp 226) (.tmp 230) 108 rfl W2.heap.size 126 i0 (.agg #[.string ⟨#[]⟩, .int .i64 0]) 24 Try.underlying108 hi0 hz0 hz1 hz2 rfl v5 (0 + L) ([] ++ flatE E) ?_ ?_ 0 (.slice (some ⟨w5.heap.size, 0, none⟩) 1 1) 1 [.string sa, .int .i64 (kx : Int)] ?_ ?_ ?_ ?_ ?_ ?_ ?_
          · simp [Act.eval, Act.put]; done
          · exact hown5.below2 ((Below.refl _ _).alloc (Nat.le_refl _) _)
          · simp [Act.eval, Act.put]; done
          · exact own_one _ _ _ _ _ rfl
          · exact fun u hu => by (simp only [List.mem_cons, List.not_mem_nil, or_false] at hu; rcases hu with rfl | rfl <;> rfl)
          · unfold maxLen; omega
          · omega
          · exact (‹Mo B W2 _ ∧ _›).1.size
          intro v8 w8 hown8 hgrow8 hbel8
          have hq8 : w8.heap[B]? = W2.heap[B]? := (hbel8.block B hBL).trans ((Below.block ((Below.refl _ w5).alloc (Nat.le_refl _) _) B (by have := hm5.size; omega)).trans hq5)
          have hm8 : Mo B W2 w8 := (‹Mo B W2 _ ∧ _›).1.grow hbel8
          obtain ⟨a8, n8, c8, rfl⟩ := own_slice hown8
          have hc8 : w8.cell? ⟨B, kb * 10 + 9, none⟩ = some (.slice a L cap) := (cell_block hq8 _).trans C9.out
          refine hK.out _ _ ?_ (fun hHeld => ?_)
          · (try dsimp only); exact Sy.below hbel8 hTL hBL ‹Mo B W2 _ ∧ _›
          clear hK K
          try simp only [List.getElem_toArray, List.getElem_cons_zero, List.getElem_cons_succ, Act.put, List.setIfInBounds_toArray, List.set_cons_zero, List.set_cons_succ]
          refine wpAnyH_take (i := 20) (v := ?_) rfl (by kernel_rfl) (by kernel_rfl) (by kernel_rfl) (fun _ _ _ h => h) (Or.inl ⟨by rfl, ?_⟩) (by assumption) ?_
          rotate_left
          · (intro W hSw; (try dsimp only at hSw); go_simp; try with_reducible rfl)
          try simp only [List.getElem_toArray, List.getElem_cons_zero, List.getElem_cons_succ, Act.put, List.setIfInBounds_toArray, List.set_cons_zero, List.set_cons_succ]
          refine wpAnyH_take (i := 21) (v := ?_) rfl (by kernel_rfl) (by kernel_rfl) (by kernel_rfl) (fun _ _ _ h => h) (Or.inl ⟨by rfl, ?_⟩) (by assumption) ?_
          rotate_left
          · (intro W hSw; (try dsimp only at hSw); go_simp; try with_reducible rfl)
          try simp only [List.getElem_toArray, List.getElem_cons_zero, List.getElem_cons_succ, Act.put, List.setIfInBounds_toArray, List.set_cons_zero, List.set_cons_succ]
          refine wpAnyH_ready (rs := [22]) (by kernel_rfl) (by simp) ?_
          refine AllReadyH.cons rfl (fun K hK => ?_) AllReadyH.nil
          simp only [List.getElem_toArray, List.getElem_cons_zero, List.getElem_cons_succ]
          go_simp
          refine hK.out _ _ ?_ (fun hHeld => ?_)
          · (try dsimp only); exact Sy.set hTB ‹Mo B W2 _ ∧ _› _
          clear hK K
          try simp only [List.getElem_toArray, List.getElem_cons_zero, List.getElem_cons_succ, Act.put, List.setIfInBounds_toArray, List.set_cons_zero, List.set_cons_succ]
          refine wpAnyH_done (by kernel_rfl) ?_ _
          have hRF := (HRF.out.moEq hm8 hq8).set hb2 (show 9 < 10 by omega) (.slice a8 n8 c8) { G2 kb with sl := .slice a8 n8 c8, ents := (G2 kb).ents ++ [(sa, kx)] } rfl (ent_of hown8 (G2 kb) ((G2 kb).ents ++ [(sa, kx)]) (by rw [List.length_append, HG.out, ← HLE.out]; simp) (by rw [flatE_app, List.nil_append, HG.out]; rfl))
          have hMO := (HM1.out.trans hm8).set (i := kb * 10 + 9) (.slice a8 n8 c8)
          clear hown8 hgrow8 hbel8 hown5 hgrow5 hbel5 hm8 hq8 hm5 hq5 hc8
          generalize w8.setCell ⟨B, kb * 10 + 9, none⟩ (.slice a8 n8 c8) = W3 at *
          have ht3 := HT3.out (.slice a8 n8 c8)
          obtain ⟨G3, hG3⟩ : ∃ G3, updG G2 kb { G2 kb with sl := .slice a8 n8 c8, ents := (G2 kb).ents ++ [(sa, kx)] } = G3 := ⟨_, rfl⟩
          rw [hG3] at hRF ht3
          clear hG3 c0 b9 s9
          have x1 := hRF.c1 kx hx2
          rw [(ht3.sok kx _ HX3.out).kind] at x1
          have x6 := hRF.c6 kx hx2
          rw [(ht3.sok kx _ HX3.out).holds] at x6
          dsimp only at x1 x6
          obtain ⟨hv, hhv⟩ : ∃ hv : Int, ((m.holds + 1 : Nat) : Int) = hv := ⟨_, rfl⟩
          have hv1 : 1 ≤ hv := by omega
          have hv2 : hv ≤ 1000001 := by omega
          rw [hhv] at x6
          have s6 := hRF.frozen (kx * 10 + 6)
          have c0 := hRF.cellT
          have HRF3 := Lib.hid hRF
          have HTI3 := Lib.hid ht3
          have HMO3 := Lib.hid hMO
          have HHV := Lib.hid hhv
          clear hRF ht3 hMO hhv
          first
          | rw [HKD.out] at x1
            have s7 := HRF3.out.frozen (kx * 10 + 7)
            have x7 := HRF3.out.c7 kx hx2
            go_wp2_with fail
            refine (HEND.out _ _ ((HRF3.out.set hx2 (show 7 < 10 by omega) (.int .i64 (kb : Int)) { G3 kx with parent := (kb : Int) } rfl (HRF3.out.ents kx hx2)).set hx2 (show 6 < 10 by omega) (.int .i64 (hv - 1)) { (updG G3 kx { G3 kx with parent := (kb : Int) }) kx with holds := hv - 1 } rfl ((HRF3.out.set hx2 (show 7 < 10 by omega) (.int .i64 (kb : Int)) { G3 kx with parent := (kb : Int) } rfl (HRF3.out.ents kx hx2)).ents kx hx2)) (by rw [← HFX.out]; exact HTI3.out.endD HX3.out HKD.out HHV.out kb) ((HMO3.out.set _).set _)).mono ?_
            rintro e w9 ⟨rfl, hs⟩
            have HS := Lib.hid hs
            clear hs
            go_wp2
            go_ret
            exact ⟨rfl, HS.out⟩
          | go_wp2_with fail
            refine (HEND.out _ _ (HRF3.out.set hx2 (show 6 < 10 by omega) (.int .i64 (hv - 1)) { G3 kx with holds := hv - 1 } rfl (HRF3.out.ents kx hx2)) (by rw [← HFX.out]; exact HTI3.out.endF HX3.out HHV.out) (HMO3.out.set _)).mono ?_
            rintro e w9 ⟨rfl, hs⟩
            have HS := Lib.hid hs
            clear hs
            go_wp2
            go_ret
            exact ⟨rfl, HS.out⟩
        refine AllReadyH.cons rfl (fun K hK => ?_) AllReadyH.nil
        simp only [List.getElem_toArray, List.getElem_cons_zero, List.getElem_cons_succ]
        go_simp
        refine hK.out _ _ ?_ (fun hHeld => ?_)
        · (try dsimp only); exact Sy.below ((Below.refl _ _).alloc (‹Mo B W2 _ ∧ _›).1.size _) hTL hBL ‹Mo B W2 _ ∧ _›
        clear hK K
        try simp only [List.getElem_toArray, List.getElem_cons_zero, List.getElem_cons_succ, Act.put, List.setIfInBounds_toArray, List.set_cons_zero, List.set_cons_succ]
        refine wpAnyH_ready (rs := [14]) (by kernel_rfl) (by simp) ?_
        refine AllReadyH.cons rfl (fun K hK => ?_) AllReadyH.nil
        refine step_app_row2 rfl (.tmp 217) (.tmp 225) 108 rfl W2.heap.size 126 i0 (.agg #[.string ⟨#[]⟩, .int .i64 0]) 24 Try.underlying108 hi0 hz0 hz1 hz2 rfl (.slice (some ⟨W2.heap.size, 0, none⟩) 0 0) 0 [] ?_ ?_ 0 (.slice a L cap) L (flatE E) ?_ ?_ ?_ ?_ ?_ ?_ ?_
        · simp [Act.eval, Act.put]; done
        · exact ((own_empty _ _ _ _ rfl (Nat.le_refl _)).below2 ((Below.refl _ _).alloc (Nat.le_refl _) _)).drew
        · simp [Act.eval, Act.put]; done
        · exact HSRC.out _ (‹Mo B W2 _ ∧ _›).1
        · exact fun u hu => flatE_one _ u hu
        · unfold maxLen; omega
        · omega
        · exact (‹Mo B W2 _ ∧ _›).1.size
        intro v5 w5 hown5 hgrow5 hbel5
        have hm5 : Mo B W2 w5 := (‹Mo B W2 _ ∧ _›).1.grow hbel5
        have hq5 : w5.heap[B]? = W2.heap[B]? := (hbel5.block B hBL).trans (Below.block ((((Below.refl W2.heap.size W2).drew).alloc (Nat.le_refl _) _).alloc (by simp) _) B hBL)
        refine hK.out _ _ ?_ (fun hHeld => ?_)
        · (try dsimp only); exact Sy.below hbel5 hTL hBL ‹Mo B W2 _ ∧ _›
        clear hK K
        try simp only [List.getElem_toArray, List.getElem_cons_zero, List.getElem_cons_succ, Act.put, List.setIfInBounds_toArray, List.set_cons_zero, List.set_cons_succ]
        refine wpAnyH_ready (rs := [19]) (by kernel_rfl) (by simp) ?_
        refine AllReadyH.cons rfl (fun K hK => ?_) AllReadyH.nil
        refine step_app_row2 rfl (.tmp 226) (.tmp 230) 108 rfl W2.heap.size 126 i0 (.agg #[.string ⟨#[]⟩, .int .i64 0]) 24 Try.underlying108 hi0 hz0 hz1 hz2 rfl v5 (0 + L) ([] ++ flatE E) ?_ ?_ 0 (.slice (some ⟨(W2.heap.size + 1), 0, none⟩) 1 1) 1 [.string sa, .int .i64 (kx : Int)] ?_ ?_ ?_ ?_ ?_ ?_ ?_
        · simp [Act.eval, Act.put]; done
        · exact hown5
        · simp [Act.eval, Act.put]; done
        · exact ((own_one _ _ _ _ _ (by simp)).drew.kept hgrow5 (.inr (by simp [Value.ownBlock])))
        · exact fun u hu => by (simp only [List.mem_cons, List.not_mem_nil, or_false] at hu; rcases hu with rfl | rfl <;> rfl)
        · unfold maxLen; omega
        · omega
        · exact (‹Mo B W2 _ ∧ _›).1.size
        intro v8 w8 hown8 hgrow8 hbel8
        have hq8 : w8.heap[B]? = W2.heap[B]? := (hbel8.block B hBL).trans hq5
        have hm8 : Mo B W2 w8 := (‹Mo B W2 _ ∧ _›).1.grow hbel8
        obtain ⟨a8, n8, c8, rfl⟩ := own_slice hown8
        have hc8 : w8.cell? ⟨B, kb * 10 + 9, none⟩ = some (.slice a L cap) := (cell_block hq8 _).trans C9.out
        refine hK.out _ _ ?_ (fun hHeld => ?_)
        · (try dsimp only); exact Sy.below hbel8 hTL hBL ‹Mo B W2 _ ∧ _›
        clear hK K
        try simp only [List.getElem_toArray, List.getElem_cons_zero, List.getElem_cons_succ, Act.put, List.setIfInBounds_toArray, List.set_cons_zero, List.set_cons_succ]
        refine wpAnyH_take (i := 20) (v := ?_) rfl (by kernel_rfl) (by kernel_rfl) (by kernel_rfl) (fun _ _ _ h => h) (Or.inl ⟨by rfl, ?_⟩) (by assumption) ?_
        rotate_left
        · (intro W hSw; (try dsimp only at hSw); go_simp; try with_reducible rfl)
        try simp only [List.getElem_toArray, List.getElem_cons_zero, List.getElem_cons_succ, Act.put, List.setIfInBounds_toArray, List.set_cons_zero, List.set_cons_succ]
        refine wpAnyH_take (i := 21) (v := ?_) rfl (by kernel_rfl) (by kernel_rfl) (by kernel_rfl) (fun _ _ _ h => h) (Or.inl ⟨by rfl, ?_⟩) (by assumption) ?_
        rotate_left
        · (intro W hSw; (try dsimp only at hSw); go_simp; try with_reducible rfl)
        try simp only [List.getElem_toArray, List.getElem_cons_zero, List.getElem_cons_succ, Act.put, List.setIfInBounds_toArray, List.set_cons_zero, List.set_cons_succ]
        refine wpAnyH_ready (rs := [22]) (by kernel_rfl) (by simp) ?_
        refine AllReadyH.cons rfl (fun K hK => ?_) AllReadyH.nil
        simp only [List.getElem_toArray, List.getElem_cons_zero, List.getElem_cons_succ]
        go_simp
        refine hK.out _ _ ?_ (fun hHeld => ?_)
        · (try dsimp only); exact Sy.set hTB ‹Mo B W2 _ ∧ _› _
        clear hK K
        try simp only [List.getElem_toArray, List.getElem_cons_zero, List.getElem_cons_succ, Act.put, List.setIfInBounds_toArray, List.set_cons_zero, List.set_cons_succ]
        refine wpAnyH_done (by kernel_rfl) ?_ _
        have hRF := (HRF.out.moEq hm8 hq8).set hb2 (show 9 < 10 by omega) (.slice a8 n8 c8) { G2 kb with sl := .slice a8 n8 c8, ents := (G2 kb).ents ++ [(sa, kx)] } rfl (ent_of hown8 (G2 kb) ((G2 kb).ents ++ [(sa, kx)]) (by rw [List.length_append, HG.out, ← HLE.out]; simp) (by rw [flatE_app, List.nil_append, HG.out]; rfl))
        have hMO := (HM1.out.trans hm8).set (i := kb * 10 + 9) (.slice a8 n8 c8)
        clear hown8 hgrow8 hbel8 hown5 hgrow5 hbel5 hm8 hq8 hm5 hq5 hc8
        generalize w8.setCell ⟨B, kb * 10 + 9, none⟩ (.slice a8 n8 c8) = W3 at *
        have ht3 := HT3.out (.slice a8 n8 c8)
        obtain ⟨G3, hG3⟩ : ∃ G3, updG G2 kb { G2 kb with sl := .slice a8 n8 c8, ents := (G2 kb).ents ++ [(sa, kx)] } = G3 := ⟨_, rfl⟩
        rw [hG3] at hRF ht3
        clear hG3 c0 b9 s9
        have x1 := hRF.c1 kx hx2
        rw [(ht3.sok kx _ HX3.out).kind] at x1
        have x6 := hRF.c6 kx hx2
        rw [(ht3.sok kx _ HX3.out).holds] at x6
        dsimp only at x1 x6
        obtain ⟨hv, hhv⟩ : ∃ hv : Int, ((m.holds + 1 : Nat) : Int) = hv := ⟨_, rfl⟩
        have hv1 : 1 ≤ hv := by omega
        have hv2 : hv ≤ 1000001 := by omega
        rw [hhv] at x6
        have s6 := hRF.frozen (kx * 10 + 6)
        have c0 := hRF.cellT
        have HRF3 := Lib.hid hRF
        have HTI3 := Lib.hid ht3
        have HMO3 := Lib.hid hMO
        have HHV := Lib.hid hhv
        clear hRF ht3 hMO hhv
        first
        | rw [HKD.out] at x1
          have s7 := HRF3.out.frozen (kx * 10 + 7)
          have x7 := HRF3.out.c7 kx hx2
          go_wp2_with fail
          refine (HEND.out _ _ ((HRF3.out.set hx2 (show 7 < 10 by omega) (.int .i64 (kb : Int)) { G3 kx with parent := (kb : Int) } rfl (HRF3.out.ents kx hx2)).set hx2 (show 6 < 10 by omega) (.int .i64 (hv - 1)) { (updG G3 kx { G3 kx with parent := (kb : Int) }) kx with holds := hv - 1 } rfl ((HRF3.out.set hx2 (show 7 < 10 by omega) (.int .i64 (kb : Int)) { G3 kx with parent := (kb : Int) } rfl (HRF3.out.ents kx hx2)).ents kx hx2)) (by rw [← HFX.out]; exact HTI3.out.endD HX3.out HKD.out HHV.out kb) ((HMO3.out.set _).set _)).mono ?_
          rintro e w9 ⟨rfl, hs⟩
          have HS := Lib.hid hs
          clear hs
          go_wp2
          go_ret
          exact ⟨rfl, HS.out⟩
        | go_wp2_with fail
          refine (HEND.out _ _ (HRF3.out.set hx2 (show 6 < 10 by omega) (.int .i64 (hv - 1)) { G3 kx with holds := hv - 1 } rfl (HRF3.out.ents kx hx2)) (by rw [← HFX.out]; exact HTI3.out.endF HX3.out HHV.out) (HMO3.out.set _)).mono ?_
          rintro e w9 ⟨rfl, hs⟩
          have HS := Lib.hid hs
          clear hs
          go_wp2
          go_ret
          exact ⟨rfl, HS.out⟩
      refine AllReadyH.cons rfl (fun K hK => ?_) AllReadyH.nil
      simp only [List.getElem_toArray, List.getElem_cons_zero, List.getElem_cons_succ]
      go_simp
      refine hK.out _ _ ?_ (fun hHeld => ?_)
      · (try dsimp only); exact Sy.below ((Below.refl _ _).alloc (‹Mo B W2 _ ∧ _›).1.size _) hTL hBL ‹Mo B W2 _ ∧ _›
      clear hK K
      try simp only [List.getElem_toArray, List.getElem_cons_zero, List.getElem_cons_succ, Act.put, List.setIfInBounds_toArray, List.set_cons_zero, List.set_cons_succ]
      refine wpAnyH_ready (rs := [13]) (by kernel_rfl) (by simp) ?_
      refine AllReadyH.cons rfl (fun K hK => ?_) AllReadyH.nil
      simp only [List.getElem_toArray, List.getElem_cons_zero, List.getElem_cons_succ]
      go_simp
      refine hK.out _ _ ?_ (fun hHeld => ?_)
      · (try dsimp only); assumption
      clear hK K
      try simp only [List.getElem_toArray, List.getElem_cons_zero, List.getElem_cons_succ, Act.put, List.setIfInBounds_toArray, List.set_cons_zero, List.set_cons_succ]
      refine wpAnyH_ready (rs := [14]) (by kernel_rfl) (by simp) ?_
      refine AllReadyH.cons rfl (fun K hK => ?_) AllReadyH.nil
      refine step_app_row2 rfl (.tmp 217) (.tmp 225) 108 rfl W2.heap.size 126 i0 (.agg #[.string ⟨#[]⟩, .int .i64 0]) 24 Try.underlying108 hi0 hz0 hz1 hz2 rfl (.slice (some ⟨W2.heap.size, 0, none⟩) 0 0) 0 [] ?_ ?_ 0 (.slice a L cap) L (flatE E) ?_ ?_ ?_ ?_ ?_ ?_ ?_
      · simp [Act.eval, Act.put]; done
      · exact ((own_empty _ _ _ _ rfl (Nat.le_refl _)).below2 ((Below.refl _ _).alloc (Nat.le_refl _) _)).drew
      · simp [Act.eval, Act.put]; done
      · exact HSRC.out _ (‹Mo B W2 _ ∧ _›).1
      · exact fun u hu => flatE_one _ u hu
      · unfold maxLen; omega
      · omega
      · exact (‹Mo B W2 _ ∧ _›).1.size
      intro v5 w5 hown5 hgrow5 hbel5
      have hm5 : Mo B W2 w5 := (‹Mo B W2 _ ∧ _›).1.grow hbel5
      have hq5 : w5.heap[B]? = W2.heap[B]? := (hbel5.block B hBL).trans (Below.block ((((Below.refl W2.heap.size W2).drew).alloc (Nat.le_refl _) _).alloc (by simp) _) B hBL)
      refine hK.out _ _ ?_ (fun hHeld => ?_)
      · (try dsimp only); exact Sy.below hbel5 hTL hBL ‹Mo B W2 _ ∧ _›
      clear hK K
      try simp only [List.getElem_toArray, List.getElem_cons_zero, List.getElem_cons_succ, Act.put, List.setIfInBounds_toArray, List.set_cons_zero, List.set_cons_succ]
      refine wpAnyH_ready (rs := [19]) (by kernel_rfl) (by simp) ?_
      refine AllReadyH.cons rfl (fun K hK => ?_) AllReadyH.nil
      refine step_app_row2 rfl (.tmp 226) (.tmp 230) 108 rfl W2.heap.size 126 i0 (.agg #[.string ⟨#[]⟩, .int .i64 0]) 24 Try.underlying108 hi0 hz0 hz1 hz2 rfl v5 (0 + L) ([] ++ flatE E) ?_ ?_ 0 (.slice (some ⟨(W2.heap.size + 1), 0, none⟩) 1 1) 1 [.string sa, .int .i64 (kx : Int)] ?_ ?_ ?_ ?_ ?_ ?_ ?_
      · simp [Act.eval, Act.put]; done
      · exact hown5
      · simp [Act.eval, Act.put]; done
      · exact ((own_one _ _ _ _ _ (by simp)).drew.kept hgrow5 (.inr (by simp [Value.ownBlock])))
      · exact fun u hu => by (simp only [List.mem_cons, List.not_mem_nil, or_false] at hu; rcases hu with rfl | rfl <;> rfl)
      · unfold maxLen; omega
      · omega
      · exact (‹Mo B W2 _ ∧ _›).1.size
      intro v8 w8 hown8 hgrow8 hbel8
      have hq8 : w8.heap[B]? = W2.heap[B]? := (hbel8.block B hBL).trans hq5
      have hm8 : Mo B W2 w8 := (‹Mo B W2 _ ∧ _›).1.grow hbel8
      obtain ⟨a8, n8, c8, rfl⟩ := own_slice hown8
      have hc8 : w8.cell? ⟨B, kb * 10 + 9, none⟩ = some (.slice a L cap) := (cell_block hq8 _).trans C9.out
      refine hK.out _ _ ?_ (fun hHeld => ?_)
      · (try dsimp only); exact Sy.below hbel8 hTL hBL ‹Mo B W2 _ ∧ _›
      clear hK K
      try simp only [List.getElem_toArray, List.getElem_cons_zero, List.getElem_cons_succ, Act.put, List.setIfInBounds_toArray, List.set_cons_zero, List.set_cons_succ]
      refine wpAnyH_take (i := 20) (v := ?_) rfl (by kernel_rfl) (by kernel_rfl) (by kernel_rfl) (fun _ _ _ h => h) (Or.inl ⟨by rfl, ?_⟩) (by assumption) ?_
      rotate_left
      · (intro W hSw; (try dsimp only at hSw); go_simp; try with_reducible rfl)
      try simp only [List.getElem_toArray, List.getElem_cons_zero, List.getElem_cons_succ, Act.put, List.setIfInBounds_toArray, List.set_cons_zero, List.set_cons_succ]
      refine wpAnyH_take (i := 21) (v := ?_) rfl (by kernel_rfl) (by kernel_rfl) (by kernel_rfl) (fun _ _ _ h => h) (Or.inl ⟨by rfl, ?_⟩) (by assumption) ?_
      rotate_left
      · (intro W hSw; (try dsimp only at hSw); go_simp; try with_reducible rfl)
      try simp only [List.getElem_toArray, List.getElem_cons_zero, List.getElem_cons_succ, Act.put, List.setIfInBounds_toArray, List.set_cons_zero, List.set_cons_succ]
      refine wpAnyH_ready (rs := [22]) (by kernel_rfl) (by simp) ?_
      refine AllReadyH.cons rfl (fun K hK => ?_) AllReadyH.nil
      simp only [List.getElem_toArray, List.getElem_cons_zero, List.getElem_cons_succ]
      go_simp
      refine hK.out _ _ ?_ (fun hHeld => ?_)
      · (try dsimp only); exact Sy.set hTB ‹Mo B W2 _ ∧ _› _
      clear hK K
      try simp only [List.getElem_toArray, List.getElem_cons_zero, List.getElem_cons_succ, Act.put, List.setIfInBounds_toArray, List.set_cons_zero, List.set_cons_succ]
      refine wpAnyH_done (by kernel_rfl) ?_ _
      have hRF := (HRF.out.moEq hm8 hq8).set hb2 (show 9 < 10 by omega) (.slice a8 n8 c8) { G2 kb with sl := .slice a8 n8 c8, ents := (G2 kb).ents ++ [(sa, kx)] } rfl (ent_of hown8 (G2 kb) ((G2 kb).ents ++ [(sa, kx)]) (by rw [List.length_append, HG.out, ← HLE.out]; simp) (by rw [flatE_app, List.nil_append, HG.out]; rfl))
      have hMO := (HM1.out.trans hm8).set (i := kb * 10 + 9) (.slice a8 n8 c8)
      clear hown8 hgrow8 hbel8 hown5 hgrow5 hbel5 hm8 hq8 hm5 hq5 hc8
      generalize w8.setCell ⟨B, kb * 10 + 9, none⟩ (.slice a8 n8 c8) = W3 at *
      have ht3 := HT3.out (.slice a8 n8 c8)
      obtain ⟨G3, hG3⟩ : ∃ G3, updG G2 kb { G2 kb with sl := .slice a8 n8 c8, ents := (G2 kb).ents ++ [(sa, kx)] } = G3 := ⟨_, rfl⟩
      rw [hG3] at hRF ht3
      clear hG3 c0 b9 s9
      have x1 := hRF.c1 kx hx2
      rw [(ht3.sok kx _ HX3.out).kind] at x1
      have x6 := hRF.c6 kx hx2
      rw [(ht3.sok kx _ HX3.out).holds] at x6
      dsimp only at x1 x6
      obtain ⟨hv, hhv⟩ : ∃ hv : Int, ((m.holds + 1 : Nat) : Int) = hv := ⟨_, rfl⟩
      have hv1 : 1 ≤ hv := by omega
      have hv2 : hv ≤ 1000001 := by omega
      rw [hhv] at x6
      have s6 := hRF.frozen (kx * 10 + 6)
      have c0 := hRF.cellT
      have HRF3 := Lib.hid hRF
      have HTI3 := Lib.hid ht3
      have HMO3 := Lib.hid hMO
      have HHV := Lib.hid hhv
      clear hRF ht3 hMO hhv
      first
      | rw [HKD.out] at x1
        have s7 := HRF3.out.frozen (kx * 10 + 7)
        have x7 := HRF3.out.c7 kx hx2
        go_wp2_with fail
        refine (HEND.out _ _ ((HRF3.out.set hx2 (show 7 < 10 by omega) (.int .i64 (kb : Int)) { G3 kx with parent := (kb : Int) } rfl (HRF3.out.ents kx hx2)).set hx2 (show 6 < 10 by omega) (.int .i64 (hv - 1)) { (updG G3 kx { G3 kx with parent := (kb : Int) }) kx with holds := hv - 1 } rfl ((HRF3.out.set hx2 (show 7 < 10 by omega) (.int .i64 (kb : Int)) { G3 kx with parent := (kb : Int) } rfl (HRF3.out.ents kx hx2)).ents kx hx2)) (by rw [← HFX.out]; exact HTI3.out.endD HX3.out HKD.out HHV.out kb) ((HMO3.out.set _).set _)).mono ?_
        rintro e w9 ⟨rfl, hs⟩
        have HS := Lib.hid hs
        clear hs
        go_wp2
        go_ret
        exact ⟨rfl, HS.out⟩
      | go_wp2_with fail
        refine (HEND.out _ _ (HRF3.out.set hx2 (show 6 < 10 by omega) (.int .i64 (hv - 1)) { G3 kx with holds := hv - 1 } rfl (HRF3.out.ents kx hx2)) (by rw [← HFX.out]; exact HTI3.out.endF HX3.out HHV.out) (HMO3.out.set _)).mono ?_
        rintro e w9 ⟨rfl, hs⟩
        have HS := Lib.hid hs
        clear hs
        go_wp2
        go_ret
        exact ⟨rfl, HS.out⟩
    refine AllReadyH.cons rfl (fun K hK => ?_) ?_
    · simp only [List.getElem_toArray, List.getElem_cons_zero, List.getElem_cons_succ]
      go_simp
      refine hK.out _ _ ?_ (fun hHeld => ?_)
      · (try dsimp only); assumption
      clear hK K
      try simp only [List.getElem_toArray, List.getElem_cons_zero, List.getElem_cons_succ, Act.put, List.setIfInBounds_toArray, List.set_cons_zero, List.set_cons_succ]
      refine wpAnyH_ready (rs := [5, 18]) (by kernel_rfl) (by simp) ?_
      refine AllReadyH.cons rfl (fun K hK => ?_) ?_
      · simp only [List.getElem_toArray, List.getElem_cons_zero, List.getElem_cons_succ]
        go_simp
        refine hK.out _ _ ?_ (fun hHeld => ?_)
        · (try dsimp only); exact Sy.below ((Below.refl _ _).alloc (‹Mo B W2 _ ∧ _›).1.size _) hTL hBL ‹Mo B W2 _ ∧ _›
        clear hK K
        try simp only [List.getElem_toArray, List.getElem_cons_zero, List.getElem_cons_succ, Act.put, List.setIfInBounds_toArray, List.set_cons_zero, List.set_cons_succ]
        refine wpAnyH_ready (rs := [14, 18]) (by kernel_rfl) (by simp) ?_
        refine AllReadyH.cons rfl (fun K hK => ?_) ?_
        · refine step_app_row2 rfl (.tmp 217) (.tmp 225) 108 rfl W2.heap.size 126 i0 (.agg #[.string ⟨#[]⟩, .int .i64 0]) 24 Try.underlying108 hi0 hz0 hz1 hz2 rfl (.slice (some ⟨W2.heap.size, 0, none⟩) 0 0) 0 [] ?_ ?_ 0 (.slice a L cap) L (flatE E) ?_ ?_ ?_ ?_ ?_ ?_ ?_
          · simp [Act.eval, Act.put]; done
          · exact (own_empty _ _ _ _ rfl (Nat.le_refl _)).drew
          · simp [Act.eval, Act.put]; done
          · exact HSRC.out _ (‹Mo B W2 _ ∧ _›).1
          · exact fun u hu => flatE_one _ u hu
          · unfold maxLen; omega
          · omega
          · exact (‹Mo B W2 _ ∧ _›).1.size
          intro v5 w5 hown5 hgrow5 hbel5
          have hm5 : Mo B W2 w5 := (‹Mo B W2 _ ∧ _›).1.grow hbel5
          have hq5 : w5.heap[B]? = W2.heap[B]? := (hbel5.block B hBL).trans (Below.block (((Below.refl W2.heap.size W2).drew).alloc (Nat.le_refl _) _) B hBL)
          refine hK.out _ _ ?_ (fun hHeld => ?_)
          · (try dsimp only); exact Sy.below hbel5 hTL hBL ‹Mo B W2 _ ∧ _›
          clear hK K
          try simp only [List.getElem_toArray, List.getElem_cons_zero, List.getElem_cons_succ, Act.put, List.setIfInBounds_toArray, List.set_cons_zero, List.set_cons_succ]
          refine wpAnyH_ready (rs := [18]) (by kernel_rfl) (by simp) ?_
          refine AllReadyH.cons rfl (fun K hK => ?_) AllReadyH.nil
          simp only [List.getElem_toArray, List.getElem_cons_zero, List.getElem_cons_succ]
          go_simp
          refine hK.out _ _ ?_ (fun hHeld => ?_)
          · (try dsimp only); exact Sy.below ((Below.refl _ _).alloc (‹Mo B W2 _ ∧ _›).1.size _) hTL hBL ‹Mo B W2 _ ∧ _›
          clear hK K
          try simp only [List.getElem_toArray, List.getElem_cons_zero, List.getElem_cons_succ, Act.put, List.setIfInBounds_toArray, List.set_cons_zero, List.set_cons_succ]
          refine wpAnyH_ready (rs := [19]) (by kernel_rfl) (by simp) ?_
          refine AllReadyH.cons rfl (fun K hK => ?_) AllReadyH.nil
          refine step_app_row2 rfl (.tmp 226) (.tmp 230) 108 rfl W2.heap.size 126 i0 (.agg #[.string ⟨#[]⟩, .int .i64 0]) 24 Try.underlying108 hi0 hz0 hz1 hz2 rfl v5 (0 + L) ([] ++ flatE E) ?_ ?_ 0 (.slice (some ⟨w5.heap.size, 0, none⟩) 1 1) 1 [.string sa, .int .i64 (kx : Int)] ?_ ?_ ?_ ?_ ?_ ?_ ?_
          · simp [Act.eval, Act.put]; done
          · exact hown5.below2 ((Below.refl _ _).alloc (Nat.le_refl _) _)
          · simp [Act.eval, Act.put]; done
          · exact own_one _ _ _ _ _ rfl
          · exact fun u hu => by (simp only [List.mem_cons, List.not_mem_nil, or_false] at hu; rcases hu with rfl | rfl <;> rfl)
          · unfold maxLen; omega
          · omega
          · exact (‹Mo B W2 _ ∧ _›).1.size
          intro v8 w8 hown8 hgrow8 hbel8
          have hq8 : w8.heap[B]? = W2.heap[B]? := (hbel8.block B hBL).trans ((Below.block ((Below.refl _ w5).alloc (Nat.le_refl _) _) B (by have := hm5.size; omega)).trans hq5)
          have hm8 : Mo B W2 w8 := (‹Mo B W2 _ ∧ _›).1.grow hbel8
          obtain ⟨a8, n8, c8, rfl⟩ := own_slice hown8
          have hc8 : w8.cell? ⟨B, kb * 10 + 9, none⟩ = some (.slice a L cap) := (cell_block hq8 _).trans C9.out
          refine hK.out _ _ ?_ (fun hHeld => ?_)
          · (try dsimp only); exact Sy.below hbel8 hTL hBL ‹Mo B W2 _ ∧ _›
          clear hK K
          try simp only [List.getElem_toArray, List.getElem_cons_zero, List.getElem_cons_succ, Act.put, List.setIfInBounds_toArray, List.set_cons_zero, List.set_cons_succ]
          refine wpAnyH_take (i := 20) (v := ?_) rfl (by kernel_rfl) (by kernel_rfl) (by kernel_rfl) (fun _ _ _ h => h) (Or.inl ⟨by rfl, ?_⟩) (by assumption) ?_
          rotate_left
          · (intro W hSw; (try dsimp only at hSw); go_simp; try with_reducible rfl)
          try simp only [List.getElem_toArray, List.getElem_cons_zero, List.getElem_cons_succ, Act.put, List.setIfInBounds_toArray, List.set_cons_zero, List.set_cons_succ]
          refine wpAnyH_take (i := 21) (v := ?_) rfl (by kernel_rfl) (by kernel_rfl) (by kernel_rfl) (fun _ _ _ h => h) (Or.inl ⟨by rfl, ?_⟩) (by assumption) ?_
          rotate_left
          · (intro W hSw; (try dsimp only at hSw); go_simp; try with_reducible rfl)
          try simp only [List.getElem_toArray, List.getElem_cons_zero, List.getElem_cons_succ, Act.put, List.setIfInBounds_toArray, List.set_cons_zero, List.set_cons_succ]
          refine wpAnyH_ready (rs := [22]) (by kernel_rfl) (by simp) ?_
          refine AllReadyH.cons rfl (fun K hK => ?_) AllReadyH.nil
          simp only [List.getElem_toArray, List.getElem_cons_zero, List.getElem_cons_succ]
          go_simp
          refine hK.out _ _ ?_ (fun hHeld => ?_)
          · (try dsimp only); exact Sy.set hTB ‹Mo B W2 _ ∧ _› _
          clear hK K
          try simp only [List.getElem_toArray, List.getElem_cons_zero, List.getElem_cons_succ, Act.put, List.setIfInBounds_toArray, List.set_cons_zero, List.set_cons_succ]
          refine wpAnyH_done (by kernel_rfl) ?_ _
          have hRF := (HRF.out.moEq hm8 hq8).set hb2 (show 9 < 10 by omega) (.slice a8 n8 c8) { G2 kb with sl := .slice a8 n8 c8, ents := (G2 kb).ents ++ [(sa, kx)] } rfl (ent_of hown8 (G2 kb) ((G2 kb).ents ++ [(sa, kx)]) (by rw [List.length_append, HG.out, ← HLE.out]; simp) (by rw [flatE_app, List.nil_append, HG.out]; rfl))
          have hMO := (HM1.out.trans hm8).set (i := kb * 10 + 9) (.slice a8 n8 c8)
          clear hown8 hgrow8 hbel8 hown5 hgrow5 hbel5 hm8 hq8 hm5 hq5 hc8
          generalize w8.setCell ⟨B, kb * 10 + 9, none⟩ (.slice a8 n8 c8) = W3 at *
          have ht3 := HT3.out (.slice a8 n8 c8)
          obtain ⟨G3, hG3⟩ : ∃ G3, updG G2 kb { G2 kb with sl := .slice a8 n8 c8, ents := (G2 kb).ents ++ [(sa, kx)] } = G3 := ⟨_, rfl⟩
          rw [hG3] at hRF ht3
          clear hG3 c0 b9 s9
          have x1 := hRF.c1 kx hx2
          rw [(ht3.sok kx _ HX3.out).kind] at x1
          have x6 := hRF.c6 kx hx2
          rw [(ht3.sok kx _ HX3.out).holds] at x6
          dsimp only at x1 x6
          obtain ⟨hv, hhv⟩ : ∃ hv : Int, ((m.holds + 1 : Nat) : Int) = hv := ⟨_, rfl⟩
          have hv1 : 1 ≤ hv := by omega
          have hv2 : hv ≤ 1000001 := by omega
          rw [hhv] at x6
          have s6 := hRF.frozen (kx * 10 + 6)
          have c0 := hRF.cellT
          have HRF3 := Lib.hid hRF
          have HTI3 := Lib.hid ht3
          have HMO3 := Lib.hid hMO
          have HHV := Lib.hid hhv
          clear hRF ht3 hMO hhv
          first
          | rw [HKD.out] at x1
            have s7 := HRF3.out.frozen (kx * 10 + 7)
            have x7 := HRF3.out.c7 kx hx2
            go_wp2_with fail
            refine (HEND.out _ _ ((HRF3.out.set hx2 (show 7 < 10 by omega) (.int .i64 (kb : Int)) { G3 kx with parent := (kb : Int) } rfl (HRF3.out.ents kx hx2)).set hx2 (show 6 < 10 by omega) (.int .i64 (hv - 1)) { (updG G3 kx { G3 kx with parent := (kb : Int) }) kx with holds := hv - 1 } rfl ((HRF3.out.set hx2 (show 7 < 10 by omega) (.int .i64 (kb : Int)) { G3 kx with parent := (kb : Int) } rfl (HRF3.out.ents kx hx2)).ents kx hx2)) (by rw [← HFX.out]; exact HTI3.out.endD HX3.out HKD.out HHV.out kb) ((HMO3.out.set _).set _)).mono ?_
            rintro e w9 ⟨rfl, hs⟩
            have HS := Lib.hid hs
            clear hs
            go_wp2
            go_ret
            exact ⟨rfl, HS.out⟩
          | go_wp2_with fail
            refine (HEND.out _ _ (HRF3.out.set hx2 (show 6 < 10 by omega) (.int .i64 (hv - 1)) { G3 kx with holds := hv - 1 } rfl (HRF3.out.ents kx hx2)) (by rw [← HFX.out]; exact HTI3.out.endF HX3.out HHV.out) (HMO3.out.set _)).mono ?_
            rintro e w9 ⟨rfl, hs⟩
            have HS := Lib.hid hs
            clear hs
            go_wp2
            go_ret
            exact ⟨rfl, HS.out⟩
        refine AllReadyH.cons rfl (fun K hK => ?_) AllReadyH.nil
        simp only [List.getElem_toArray, List.getElem_cons_zero, List.getElem_cons_succ]
        go_simp
        refine hK.out _ _ ?_ (fun hHeld => ?_)
        · (try dsimp only); exact Sy.below ((Below.refl _ _).alloc (‹Mo B W2 _ ∧ _›).1.size _) hTL hBL ‹Mo B W2 _ ∧ _›
        clear hK K
        try simp only [List.getElem_toArray, List.getElem_cons_zero, List.getElem_cons_succ, Act.put, List.setIfInBounds_toArray, List.set_cons_zero, List.set_cons_succ]
        refine wpAnyH_ready (rs := [14]) (by kernel_rfl) (by simp) ?_
        refine AllReadyH.cons rfl (fun K hK => ?_) AllReadyH.nil
        refine step_app_row2 rfl (.tmp 217) (.tmp 225) 108 rfl W2.heap.size 126 i0 (.agg #[.string ⟨#[]⟩, .int .i64 0]) 24 Try.underlying108 hi0 hz0 hz1 hz2 rfl (.slice (some ⟨W2.heap.size, 0, none⟩) 0 0) 0 [] ?_ ?_ 0 (.slice a L cap) L (flatE E) ?_ ?_ ?_ ?_ ?_ ?_ ?_
        · simp [Act.eval, Act.put]; done
        · exact ((own_empty _ _ _ _ rfl (Nat.le_refl _)).below2 ((Below.refl _ _).alloc (Nat.le_refl _) _)).drew
        · simp [Act.eval, Act.put]; done
        · exact HSRC.out _ (‹Mo B W2 _ ∧ _›).1
        · exact fun u hu => flatE_one _ u hu
        · unfold maxLen; omega
        · omega
        · exact (‹Mo B W2 _ ∧ _›).1.size
        intro v5 w5 hown5 hgrow5 hbel5
        have hm5 : Mo B W2 w5 := (‹Mo B W2 _ ∧ _›).1.grow hbel5
        have hq5 : w5.heap[B]? = W2.heap[B]? := (hbel5.block B hBL).trans (Below.block ((((Below.refl W2.heap.size W2).drew).alloc (Nat.le_refl _) _).alloc (by simp) _) B hBL)
        refine hK.out _ _ ?_ (fun hHeld => ?_)
        · (try dsimp only); exact Sy.below hbel5 hTL hBL ‹Mo B W2 _ ∧ _›
        clear hK K
        try simp only [List.getElem_toArray, List.getElem_cons_zero, List.getElem_cons_succ, Act.put, List.setIfInBounds_toArray, List.set_cons_zero, List.set_cons_succ]
        refine wpAnyH_ready (rs := [19]) (by kernel_rfl) (by simp) ?_
        refine AllReadyH.cons rfl (fun K hK => ?_) AllReadyH.nil
        refine step_app_row2 rfl (.tmp 226) (.tmp 230) 108 rfl W2.heap.size 126 i0 (.agg #[.string ⟨#[]⟩, .int .i64 0]) 24 Try.underlying108 hi0 hz0 hz1 hz2 rfl v5 (0 + L) ([] ++ flatE E) ?_ ?_ 0 (.slice (some ⟨(W2.heap.size + 1), 0, none⟩) 1 1) 1 [.string sa, .int .i64 (kx : Int)] ?_ ?_ ?_ ?_ ?_ ?_ ?_
        · simp [Act.eval, Act.put]; done
        · exact hown5
        · simp [Act.eval, Act.put]; done
        · exact ((own_one _ _ _ _ _ (by simp)).drew.kept hgrow5 (.inr (by simp [Value.ownBlock])))
        · exact fun u hu => by (simp only [List.mem_cons, List.not_mem_nil, or_false] at hu; rcases hu with rfl | rfl <;> rfl)
        · unfold maxLen; omega
        · omega
        · exact (‹Mo B W2 _ ∧ _›).1.size
        intro v8 w8 hown8 hgrow8 hbel8
        have hq8 : w8.heap[B]? = W2.heap[B]? := (hbel8.block B hBL).trans hq5
        have hm8 : Mo B W2 w8 := (‹Mo B W2 _ ∧ _›).1.grow hbel8
        obtain ⟨a8, n8, c8, rfl⟩ := own_slice hown8
        have hc8 : w8.cell? ⟨B, kb * 10 + 9, none⟩ = some (.slice a L cap) := (cell_block hq8 _).trans C9.out
        refine hK.out _ _ ?_ (fun hHeld => ?_)
        · (try dsimp only); exact Sy.below hbel8 hTL hBL ‹Mo B W2 _ ∧ _›
        clear hK K
        try simp only [List.getElem_toArray, List.getElem_cons_zero, List.getElem_cons_succ, Act.put, List.setIfInBounds_toArray, List.set_cons_zero, List.set_cons_succ]
        refine wpAnyH_take (i := 20) (v := ?_) rfl (by kernel_rfl) (by kernel_rfl) (by kernel_rfl) (fun _ _ _ h => h) (Or.inl ⟨by rfl, ?_⟩) (by assumption) ?_
        rotate_left
        · (intro W hSw; (try dsimp only at hSw); go_simp; try with_reducible rfl)
        try simp only [List.getElem_toArray, List.getElem_cons_zero, List.getElem_cons_succ, Act.put, List.setIfInBounds_toArray, List.set_cons_zero, List.set_cons_succ]
        refine wpAnyH_take (i := 21) (v := ?_) rfl (by kernel_rfl) (by kernel_rfl) (by kernel_rfl) (fun _ _ _ h => h) (Or.inl ⟨by rfl, ?_⟩) (by assumption) ?_
        rotate_left
        · (intro W hSw; (try dsimp only at hSw); go_simp; try with_reducible rfl)
        try simp only [List.getElem_toArray, List.getElem_cons_zero, List.getElem_cons_succ, Act.put, List.setIfInBounds_toArray, List.set_cons_zero, List.set_cons_succ]
        refine wpAnyH_ready (rs := [22]) (by kernel_rfl) (by simp) ?_
        refine AllReadyH.cons rfl (fun K hK => ?_) AllReadyH.nil
        simp only [List.getElem_toArray, List.getElem_cons_zero, List.getElem_cons_succ]
        go_simp
        refine hK.out _ _ ?_ (fun hHeld => ?_)
        · (try dsimp only); exact Sy.set hTB ‹Mo B W2 _ ∧ _› _
        clear hK K
        try simp only [List.getElem_toArray, List.getElem_cons_zero, List.getElem_cons_succ, Act.put, List.setIfInBounds_toArray, List.set_cons_zero, List.set_cons_succ]
        refine wpAnyH_done (by kernel_rfl) ?_ _
        have hRF := (HRF.out.moEq hm8 hq8).set hb2 (show 9 < 10 by omega) (.slice a8 n8 c8) { G2 kb with sl := .slice a8 n8 c8, ents := (G2 kb).ents ++ [(sa, kx)] } rfl (ent_of hown8 (G2 kb) ((G2 kb).ents ++ [(sa, kx)]) (by rw [List.length_append, HG.out, ← HLE.out]; simp) (by rw [flatE_app, List.nil_append, HG.out]; rfl))
        have hMO := (HM1.out.trans hm8).set (i := kb * 10 + 9) (.slice a8 n8 c8)
        clear hown8 hgrow8 hbel8 hown5 hgrow5 hbel5 hm8 hq8 hm5 hq5 hc8
        generalize w8.setCell ⟨B, kb * 10 + 9, none⟩ (.slice a8 n8 c8) = W3 at *
        have ht3 := HT3.out (.slice a8 n8 c8)
        obtain ⟨G3, hG3⟩ : ∃ G3, updG G2 kb { G2 kb with sl := .slice a8 n8 c8, ents := (G2 kb).ents ++ [(sa, kx)] } = G3 := ⟨_, rfl⟩
        rw [hG3] at hRF ht3
        clear hG3 c0 b9 s9
        have x1 := hRF.c1 kx hx2
        rw [(ht3.sok kx _ HX3.out).kind] at x1
        have x6 := hRF.c6 kx hx2
        rw [(ht3.sok kx _ HX3.out).holds] at x6
        dsimp only at x1 x6
        obtain ⟨hv, hhv⟩ : ∃ hv : Int, ((m.holds + 1 : Nat) : Int) = hv := ⟨_, rfl⟩
        have hv1 : 1 ≤ hv := by omega
        have hv2 : hv ≤ 1000001 := by omega
        rw [hhv] at x6
        have s6 := hRF.frozen (kx * 10 + 6)
        have c0 := hRF.cellT
        have HRF3 := Lib.hid hRF
        have HTI3 := Lib.hid ht3
        have HMO3 := Lib.hid hMO
        have HHV := Lib.hid hhv
        clear hRF ht3 hMO hhv
        first
        | rw [HKD.out] at x1
          have s7 := HRF3.out.frozen (kx * 10 + 7)
          have x7 := HRF3.out.c7 kx hx2
          go_wp2_with fail
          refine (HEND.out _ _ ((HRF3.out.set hx2 (show 7 < 10 by omega) (.int .i64 (kb : Int)) { G3 kx with parent := (kb : Int) } rfl (HRF3.out.ents kx hx2)).set hx2 (show 6 < 10 by omega) (.int .i64 (hv - 1)) { (updG G3 kx { G3 kx with parent := (kb : Int) }) kx with holds := hv - 1 } rfl ((HRF3.out.set hx2 (show 7 < 10 by omega) (.int .i64 (kb : Int)) { G3 kx with parent := (kb : Int) } rfl (HRF3.out.ents kx hx2)).ents kx hx2)) (by rw [← HFX.out]; exact HTI3.out.endD HX3.out HKD.out HHV.out kb) ((HMO3.out.set _).set _)).mono ?_
          rintro e w9 ⟨rfl, hs⟩
          have HS := Lib.hid hs
          clear hs
          go_wp2
          go_ret
          exact ⟨rfl, HS.out⟩
        | go_wp2_with fail
          refine (HEND.out _ _ (HRF3.out.set hx2 (show 6 < 10 by omega) (.int .i64 (hv - 1)) { G3 kx with holds := hv - 1 } rfl (HRF3.out.ents kx hx2)) (by rw [← HFX.out]; exact HTI3.out.endF HX3.out HHV.out) (HMO3.out.set _)).mono ?_
          rintro e w9 ⟨rfl, hs⟩
          have HS := Lib.hid hs
          clear hs
          go_wp2
          go_ret
          exact ⟨rfl, HS.out⟩
      refine AllReadyH.cons rfl (fun K hK => ?_) AllReadyH.nil
      simp only [List.getElem_toArray, List.getElem_cons_zero, List.getElem_cons_succ]
      go_simp
      refine hK.out _ _ ?_ (fun hHeld => ?_)
      · (try dsimp only); exact Sy.below ((Below.refl _ _).alloc (‹Mo B W2 _ ∧ _›).1.size _) hTL hBL ‹Mo B W2 _ ∧ _›
      clear hK K
      try simp only [List.getElem_toArray, List.getElem_cons_zero, List.getElem_cons_succ, Act.put, List.setIfInBounds_toArray, List.set_cons_zero, List.set_cons_succ]
      refine wpAnyH_ready (rs := [5]) (by kernel_rfl) (by simp) ?_
      refine AllReadyH.cons rfl (fun K hK => ?_) AllReadyH.nil
      simp only [List.getElem_toArray, List.getElem_cons_zero, List.getElem_cons_succ]
      go_simp
      refine hK.out _ _ ?_ (fun hHeld => ?_)
      · (try dsimp only); exact Sy.below ((Below.refl _ _).alloc (‹Mo B W2 _ ∧ _›).1.size _) hTL hBL ‹Mo B W2 _ ∧ _›
      clear hK K
      try simp only [List.getElem_toArray, List.getElem_cons_zero, List.getElem_cons_succ, Act.put, List.setIfInBounds_toArray, List.set_cons_zero, List.set_cons_succ]
      refine wpAnyH_ready (rs := [14]) (by kernel_rfl) (by simp) ?_
      refine AllReadyH.cons rfl (fun K hK => ?_) AllReadyH.nil
      refine step_app_row2 rfl (.tmp 217) (.tmp 225) 108 rfl W2.heap.size 126 i0 (.agg #[.string ⟨#[]⟩, .int .i64 0]) 24 Try.underlying108 hi0 hz0 hz1 hz2 rfl (.slice (some ⟨(W2.heap.size + 1), 0, none⟩) 0 0) 0 [] ?_ ?_ 0 (.slice a L cap) L (flatE E) ?_ ?_ ?_ ?_ ?_ ?_ ?_
      · simp [Act.eval, Act.put]; done
      · exact (own_empty _ _ _ _ (by simp) (by simp)).drew
      · simp [Act.eval, Act.put]; done
      · exact HSRC.out _ (‹Mo B W2 _ ∧ _›).1
      · exact fun u hu => flatE_one _ u hu
      · unfold maxLen; omega
      · omega
      · exact (‹Mo B W2 _ ∧ _›).1.size
      intro v5 w5 hown5 hgrow5 hbel5
      have hm5 : Mo B W2 w5 := (‹Mo B W2 _ ∧ _›).1.grow hbel5
      have hq5 : w5.heap[B]? = W2.heap[B]? := (hbel5.block B hBL).trans (Below.block ((((Below.refl W2.heap.size W2).drew).alloc (Nat.le_refl _) _).alloc (by simp) _) B hBL)
      refine hK.out _ _ ?_ (fun hHeld => ?_)
      · (try dsimp only); exact Sy.below hbel5 hTL hBL ‹Mo B W2 _ ∧ _›
      clear hK K
      try simp only [List.getElem_toArray, List.getElem_cons_zero, List.getElem_cons_succ, Act.put, List.setIfInBounds_toArray, List.set_cons_zero, List.set_cons_succ]
      refine wpAnyH_ready (rs := [19]) (by kernel_rfl) (by simp) ?_
      refine AllReadyH.cons rfl (fun K hK => ?_) AllReadyH.nil
      refine step_app_row2 rfl (.tmp 226) (.tmp 230) 108 rfl W2.heap.size 126 i0 (.agg #[.string ⟨#[]⟩, .int .i64 0]) 24 Try.underlying108 hi0 hz0 hz1 hz2 rfl v5 (0 + L) ([] ++ flatE E) ?_ ?_ 0 (.slice (some ⟨W2.heap.size, 0, none⟩) 1 1) 1 [.string sa, .int .i64 (kx : Int)] ?_ ?_ ?_ ?_ ?_ ?_ ?_
      · simp [Act.eval, Act.put]; done
      · exact hown5
      · simp [Act.eval, Act.put]; done
      · exact (((own_one _ _ _ _ _ rfl).below2 ((Below.refl _ _).alloc (Nat.le_refl _) _)).drew.kept hgrow5 (.inr (by simp [Value.ownBlock])))
      · exact fun u hu => by (simp only [List.mem_cons, List.not_mem_nil, or_false] at hu; rcases hu with rfl | rfl <;> rfl)
      · unfold maxLen; omega
      · omega
      · exact (‹Mo B W2 _ ∧ _›).1.size
      intro v8 w8 hown8 hgrow8 hbel8
      have hq8 : w8.heap[B]? = W2.heap[B]? := (hbel8.block B hBL).trans hq5
      have hm8 : Mo B W2 w8 := (‹Mo B W2 _ ∧ _›).1.grow hbel8
      obtain ⟨a8, n8, c8, rfl⟩ := own_slice hown8
      have hc8 : w8.cell? ⟨B, kb * 10 + 9, none⟩ = some (.slice a L cap) := (cell_block hq8 _).trans C9.out
      refine hK.out _ _ ?_ (fun hHeld => ?_)
      · (try dsimp only); exact Sy.below hbel8 hTL hBL ‹Mo B W2 _ ∧ _›
      clear hK K
      try simp only [List.getElem_toArray, List.getElem_cons_zero, List.getElem_cons_succ, Act.put, List.setIfInBounds_toArray, List.set_cons_zero, List.set_cons_succ]
      refine wpAnyH_take (i := 20) (v := ?_) rfl (by kernel_rfl) (by kernel_rfl) (by kernel_rfl) (fun _ _ _ h => h) (Or.inl ⟨by rfl, ?_⟩) (by assumption) ?_
      rotate_left
      · (intro W hSw; (try dsimp only at hSw); go_simp; try with_reducible rfl)
      try simp only [List.getElem_toArray, List.getElem_cons_zero, List.getElem_cons_succ, Act.put, List.setIfInBounds_toArray, List.set_cons_zero, List.set_cons_succ]
      refine wpAnyH_take (i := 21) (v := ?_) rfl (by kernel_rfl) (by kernel_rfl) (by kernel_rfl) (fun _ _ _ h => h) (Or.inl ⟨by rfl, ?_⟩) (by assumption) ?_
      rotate_left
      · (intro W hSw; (try dsimp only at hSw); go_simp; try with_reducible rfl)
      try simp only [List.getElem_toArray, List.getElem_cons_zero, List.getElem_cons_succ, Act.put, List.setIfInBounds_toArray, List.set_cons_zero, List.set_cons_succ]
      refine wpAnyH_ready (rs := [22]) (by kernel_rfl) (by simp) ?_
      refine AllReadyH.cons rfl (fun K hK => ?_) AllReadyH.nil
      simp only [List.getElem_toArray, List.getElem_cons_zero, List.getElem_cons_succ]
      go_simp
      refine hK.out _ _ ?_ (fun hHeld => ?_)
      · (try dsimp only); exact Sy.set hTB ‹Mo B W2 _ ∧ _› _
      clear hK K
      try simp only [List.getElem_toArray, List.getElem_cons_zero, List.getElem_cons_succ, Act.put, List.setIfInBounds_toArray, List.set_cons_zero, List.set_cons_succ]
      refine wpAnyH_done (by kernel_rfl) ?_ _
      have hRF := (HRF.out.moEq hm8 hq8).set hb2 (show 9 < 10 by omega) (.slice a8 n8 c8) { G2 kb with sl := .slice a8 n8 c8, ents := (G2 kb).ents ++ [(sa, kx)] } rfl (ent_of hown8 (G2 kb) ((G2 kb).ents ++ [(sa, kx)]) (by rw [List.length_append, HG.out, ← HLE.out]; simp) (by rw [flatE_app, List.nil_append, HG.out]; rfl))
      have hMO := (HM1.out.trans hm8).set (i := kb * 10 + 9) (.slice a8 n8 c8)
      clear hown8 hgrow8 hbel8 hown5 hgrow5 hbel5 hm8 hq8 hm5 hq5 hc8
      generalize w8.setCell ⟨B, kb * 10 + 9, none⟩ (.slice a8 n8 c8) = W3 at *
      have ht3 := HT3.out (.slice a8 n8 c8)
      obtain ⟨G3, hG3⟩ : ∃ G3, updG G2 kb { G2 kb with sl := .slice a8 n8 c8, ents := (G2 kb).ents ++ [(sa, kx)] } = G3 := ⟨_, rfl⟩
      rw [hG3] at hRF ht3
      clear hG3 c0 b9 s9
      have x1 := hRF.c1 kx hx2
      rw [(ht3.sok kx _ HX3.out).kind] at x1
      have x6 := hRF.c6 kx hx2
      rw [(ht3.sok kx _ HX3.out).holds] at x6
      dsimp only at x1 x6
      obtain ⟨hv, hhv⟩ : ∃ hv : Int, ((m.holds + 1 : Nat) : Int) = hv := ⟨_, rfl⟩
      have hv1 : 1 ≤ hv := by omega
      have hv2 : hv ≤ 1000001 := by omega
      rw [hhv] at x6
      have s6 := hRF.frozen (kx * 10 + 6)
      have c0 := hRF.cellT
      have HRF3 := Lib.hid hRF
      have HTI3 := Lib.hid ht3
      have HMO3 := Lib.hid hMO
      have HHV := Lib.hid hhv
      clear hRF ht3 hMO hhv
      first
      | rw [HKD.out] at x1
        have s7 := HRF3.out.frozen (kx * 10 + 7)
        have x7 := HRF3.out.c7 kx hx2
        go_wp2_with fail
        refine (HEND.out _ _ ((HRF3.out.set hx2 (show 7 < 10 by omega) (.int .i64 (kb : Int)) { G3 kx with parent := (kb : Int) } rfl (HRF3.out.ents kx hx2)).set hx2 (show 6 < 10 by omega) (.int .i64 (hv - 1)) { (updG G3 kx { G3 kx with parent := (kb : Int) }) kx with holds := hv - 1 } rfl ((HRF3.out.set hx2 (show 7 < 10 by omega) (.int .i64 (kb : Int)) { G3 kx with parent := (kb : Int) } rfl (HRF3.out.ents kx hx2)).ents kx hx2)) (by rw [← HFX.out]; exact HTI3.out.endD HX3.out HKD.out HHV.out kb) ((HMO3.out.set _).set _)).mono ?_
        rintro e w9 ⟨rfl, hs⟩
        have HS := Lib.hid hs
        clear hs
        go_wp2
        go_ret
        exact ⟨rfl, HS.out⟩
      | go_wp2_with fail
        refine (HEND.out _ _ (HRF3.out.set hx2 (show 6 < 10 by omega) (.int .i64 (hv - 1)) { G3 kx with holds := hv - 1 } rfl (HRF3.out.ents kx hx2)) (by rw [← HFX.out]; exact HTI3.out.endF HX3.out HHV.out) (HMO3.out.set _)).mono ?_
        rintro e w9 ⟨rfl, hs⟩
        have HS := Lib.hid hs
        clear hs
        go_wp2
        go_ret
        exact ⟨rfl, HS.out⟩
    refine AllReadyH.cons rfl (fun K hK => ?_) AllReadyH.nil
    simp only [List.getElem_toArray, List.getElem_cons_zero, List.getElem_cons_succ]
    go_simp
    refine hK.out _ _ ?_ (fun hHeld => ?_)
    · (try dsimp only); exact Sy.below ((Below.refl _ _).alloc (‹Mo B W2 _ ∧ _›).1.size _) hTL hBL ‹Mo B W2 _ ∧ _›
    clear hK K
    try simp only [List.getElem_toArray, List.getElem_cons_zero, List.getElem_cons_succ, Act.put, List.setIfInBounds_toArray, List.set_cons_zero, List.set_cons_succ]
    refine wpAnyH_ready (rs := [5, 13]) (by kernel_rfl) (by simp) ?_
    refine AllReadyH.cons rfl (fun K hK => ?_) ?_
    · simp only [List.getElem_toArray, List.getElem_cons_zero, List.getElem_cons_succ]
      go_simp
      refine hK.out _ _ ?_ (fun hHeld => ?_)
      · (try dsimp only); exact Sy.below ((Below.refl _ _).alloc (‹Mo B W2 _ ∧ _›).1.size _) hTL hBL ‹Mo B W2 _ ∧ _›
      clear hK K
      try simp only [List.getElem_toArray, List.getElem_cons_zero, List.getElem_cons_succ, Act.put, List.setIfInBounds_toArray, List.set_cons_zero, List.set_cons_succ]
      refine wpAnyH_ready (rs := [13]) (by kernel_rfl) (by simp) ?_
      refine AllReadyH.cons rfl (fun K hK => ?_) AllReadyH.nil
      simp only [List.getElem_toArray, List.getElem_cons_zero, List.getElem_cons_succ]
      go_simp
      refine hK.out _ _ ?_ (fun hHeld => ?_)
      · (try dsimp only); assumption
      clear hK K
      try simp only [List.getElem_toArray, List.getElem_cons_zero, List.getElem_cons_succ, Act.put, List.setIfInBounds_toArray, List.set_cons_zero, List.set_cons_succ]
      refine wpAnyH_ready (rs := [14]) (by kernel_rfl) (by simp) ?_
      refine AllReadyH.cons rfl (fun K hK => ?_) AllReadyH.nil
      refine step_app_row2 rfl (.tmp 217) (.tmp 225) 108 rfl W2.heap.size 126 i0 (.agg #[.string ⟨#[]⟩, .int .i64 0]) 24 Try.underlying108 hi0 hz0 hz1 hz2 rfl (.slice (some ⟨(W2.heap.size + 1), 0, none⟩) 0 0) 0 [] ?_ ?_ 0 (.slice a L cap) L (flatE E) ?_ ?_ ?_ ?_ ?_ ?_ ?_
      · simp [Act.eval, Act.put]; done
      · exact (own_empty _ _ _ _ (by simp) (by simp)).drew
      · simp [Act.eval, Act.put]; done
      · exact HSRC.out _ (‹Mo B W2 _ ∧ _›).1
      · exact fun u hu => flatE_one _ u hu
      · unfold maxLen; omega
      · omega
      · exact (‹Mo B W2 _ ∧ _›).1.size
      intro v5 w5 hown5 hgrow5 hbel5
      have hm5 : Mo B W2 w5 := (‹Mo B W2 _ ∧ _›).1.grow hbel5
      have hq5 : w5.heap[B]? = W2.heap[B]? := (hbel5.block B hBL).trans (Below.block ((((Below.refl W2.heap.size W2).drew).alloc (Nat.le_refl _) _).alloc (by simp) _) B hBL)
      refine hK.out _ _ ?_ (fun hHeld => ?_)
      · (try dsimp only); exact Sy.below hbel5 hTL hBL ‹Mo B W2 _ ∧ _›
      clear hK K
      try simp only [List.getElem_toArray, List.getElem_cons_zero, List.getElem_cons_succ, Act.put, List.setIfInBounds_toArray, List.set_cons_zero, List.set_cons_succ]
      refine wpAnyH_ready (rs := [19]) (by kernel_rfl) (by simp) ?_
      refine AllReadyH.cons rfl (fun K hK => ?_) AllReadyH.nil
      refine step_app_row2 rfl (.tmp 226) (.tmp 230) 108 rfl W2.heap.size 126 i0 (.agg #[.string ⟨#[]⟩, .int .i64 0]) 24 Try.underlying108 hi0 hz0 hz1 hz2 rfl v5 (0 + L) ([] ++ flatE E) ?_ ?_ 0 (.slice (some ⟨W2.heap.size, 0, none⟩) 1 1) 1 [.string sa, .int .i64 (kx : Int)] ?_ ?_ ?_ ?_ ?_ ?_ ?_
      · simp [Act.eval, Act.put]; done
      · exact hown5
      · simp [Act.eval, Act.put]; done
      · exact (((own_one _ _ _ _ _ rfl).below2 ((Below.refl _ _).alloc (Nat.le_refl _) _)).drew.kept hgrow5 (.inr (by simp [Value.ownBlock])))
      · exact fun u hu => by (simp only [List.mem_cons, List.not_mem_nil, or_false] at hu; rcases hu with rfl | rfl <;> rfl)
      · unfold maxLen; omega
      · omega
      · exact (‹Mo B W2 _ ∧ _›).1.size
      intro v8 w8 hown8 hgrow8 hbel8
      have hq8 : w8.heap[B]? = W2.heap[B]? := (hbel8.block B hBL).trans hq5
      have hm8 : Mo B W2 w8 := (‹Mo B W2 _ ∧ _›).1.grow hbel8
      obtain ⟨a8, n8, c8, rfl⟩ := own_slice hown8
      have hc8 : w8.cell? ⟨B, kb * 10 + 9, none⟩ = some (.slice a L cap) := (cell_block hq8 _).trans C9.out
      refine hK.out _ _ ?_ (fun hHeld => ?_)
      · (try dsimp only); exact Sy.below hbel8 hTL hBL ‹Mo B W2 _ ∧ _›
      clear hK K
      try simp only [List.getElem_toArray, List.getElem_cons_zero, List.getElem_cons_succ, Act.put, List.setIfInBounds_toArray, List.set_cons_zero, List.set_cons_succ]
      refine wpAnyH_take (i := 20) (v := ?_) rfl (by kernel_rfl) (by kernel_rfl) (by kernel_rfl) (fun _ _ _ h => h) (Or.inl ⟨by rfl, ?_⟩) (by assumption) ?_
      rotate_left
      · (intro W hSw; (try dsimp only at hSw); go_simp; try with_reducible rfl)
      try simp only [List.getElem_toArray, List.getElem_cons_zero, List.getElem_cons_succ, Act.put, List.setIfInBounds_toArray, List.set_cons_zero, List.set_cons_succ]
      refine wpAnyH_take (i := 21) (v := ?_) rfl (by kernel_rfl) (by kernel_rfl) (by kernel_rfl) (fun _ _ _ h => h) (Or.inl ⟨by rfl, ?_⟩) (by assumption) ?_
      rotate_left
      · (intro W hSw; (try dsimp only at hSw); go_simp; try with_reducible rfl)
      try simp only [List.getElem_toArray, List.getElem_cons_zero, List.getElem_cons_succ, Act.put, List.setIfInBounds_toArray, List.set_cons_zero, List.set_cons_succ]
      refine wpAnyH_ready (rs := [22]) (by kernel_rfl) (by simp) ?_
      refine AllReadyH.cons rfl (fun K hK => ?_) AllReadyH.nil
      simp only [List.getElem_toArray, List.getElem_cons_zero, List.getElem_cons_succ]
      go_simp
      refine hK.out _ _ ?_ (fun hHeld => ?_)
      · (try dsimp only); exact Sy.set hTB ‹Mo B W2 _ ∧ _› _
      clear hK K
      try simp only [List.getElem_toArray, List.getElem_cons_zero, List.getElem_cons_succ, Act.put, List.setIfInBounds_toArray, List.set_cons_zero, List.set_cons_succ]
      refine wpAnyH_done (by kernel_rfl) ?_ _
      have hRF := (HRF.out.moEq hm8 hq8).set hb2 (show 9 < 10 by omega) (.slice a8 n8 c8) { G2 kb with sl := .slice a8 n8 c8, ents := (G2 kb).ents ++ [(sa, kx)] } rfl (ent_of hown8 (G2 kb) ((G2 kb).ents ++ [(sa, kx)]) (by rw [List.length_append, HG.out, ← HLE.out]; simp) (by rw [flatE_app, List.nil_append, HG.out]; rfl))
      have hMO := (HM1.out.trans hm8).set (i := kb * 10 + 9) (.slice a8 n8 c8)
      clear hown8 hgrow8 hbel8 hown5 hgrow5 hbel5 hm8 hq8 hm5 hq5 hc8
      generalize w8.setCell ⟨B, kb * 10 + 9, none⟩ (.slice a8 n8 c8) = W3 at *
      have ht3 := HT3.out (.slice a8 n8 c8)
      obtain ⟨G3, hG3⟩ : ∃ G3, updG G2 kb { G2 kb with sl := .slice a8 n8 c8, ents := (G2 kb).ents ++ [(sa, kx)] } = G3 := ⟨_, rfl⟩
      rw [hG3] at hRF ht3
      clear hG3 c0 b9 s9
      have x1 := hRF.c1 kx hx2
      rw [(ht3.sok kx _ HX3.out).kind] at x1
      have x6 := hRF.c6 kx hx2
      rw [(ht3.sok kx _ HX3.out).holds] at x6
      dsimp only at x1 x6
      obtain ⟨hv, hhv⟩ : ∃ hv : Int, ((m.holds + 1 : Nat) : Int) = hv := ⟨_, rfl⟩
      have hv1 : 1 ≤ hv := by omega
      have hv2 : hv ≤ 1000001 := by omega
      rw [hhv] at x6
      have s6 := hRF.frozen (kx * 10 + 6)
      have c0 := hRF.cellT
      have HRF3 := Lib.hid hRF
      have HTI3 := Lib.hid ht3
      have HMO3 := Lib.hid hMO
      have HHV := Lib.hid hhv
      clear hRF ht3 hMO hhv
      first
      | rw [HKD.out] at x1
        have s7 := HRF3.out.frozen (kx * 10 + 7)
        have x7 := HRF3.out.c7 kx hx2
        go_wp2_with fail
        refine (HEND.out _ _ ((HRF3.out.set hx2 (show 7 < 10 by omega) (.int .i64 (kb : Int)) { G3 kx with parent := (kb : Int) } rfl (HRF3.out.ents kx hx2)).set hx2 (show 6 < 10 by omega) (.int .i64 (hv - 1)) { (updG G3 kx { G3 kx with parent := (kb : Int) }) kx with holds := hv - 1 } rfl ((HRF3.out.set hx2 (show 7 < 10 by omega) (.int .i64 (kb : Int)) { G3 kx with parent := (kb : Int) } rfl (HRF3.out.ents kx hx2)).ents kx hx2)) (by rw [← HFX.out]; exact HTI3.out.endD HX3.out HKD.out HHV.out kb) ((HMO3.out.set _).set _)).mono ?_
        rintro e w9 ⟨rfl, hs⟩
        have HS := Lib.hid hs
        clear hs
        go_wp2
        go_ret
        exact ⟨rfl, HS.out⟩
      | go_wp2_with fail
        refine (HEND.out _ _ (HRF3.out.set hx2 (show 6 < 10 by omega) (.int .i64 (hv - 1)) { G3 kx with holds := hv - 1 } rfl (HRF3.out.ents kx hx2)) (by rw [← HFX.out]; exact HTI3.out.endF HX3.out HHV.out) (HMO3.out.set _)).mono ?_
        rintro e w9 ⟨rfl, hs⟩
        have HS := Lib.hid hs
        clear hs
        go_wp2
        go_ret
        exact ⟨rfl, HS.out⟩
    refine AllReadyH.cons rfl (fun K hK => ?_) AllReadyH.nil
    simp only [List.getElem_toArray, List.getElem_cons_zero, List.getElem_cons_succ]
    go_simp
    refine hK.out _ _ ?_ (fun hHeld => ?_)
    · (try dsimp only); assumption
    clear hK K
    try simp only [List.getElem_toArray, List.getElem_cons_zero, List.getElem_cons_succ, Act.put, List.setIfInBounds_toArray, List.set_cons_zero, List.set_cons_succ]
    refine wpAnyH_ready (rs := [5]) (by kernel_rfl) (by simp) ?_
    refine AllReadyH.cons rfl (fun K hK => ?_) AllReadyH.nil
    simp only [List.getElem_toArray, List.getElem_cons_zero, List.getElem_cons_succ]
    go_simp
    refine hK.out _ _ ?_ (fun hHeld => ?_)
    · (try dsimp only); exact Sy.below ((Below.refl _ _).alloc (‹Mo B W2 _ ∧ _›).1.size _) hTL hBL ‹Mo B W2 _ ∧ _›
    clear hK K
    try simp only [List.getElem_toArray, List.getElem_cons_zero, List.getElem_cons_succ, Act.put, List.setIfInBounds_toArray, List.set_cons_zero, List.set_cons_succ]
    refine wpAnyH_ready (rs := [14]) (by kernel_rfl) (by simp) ?_
    refine AllReadyH.cons rfl (fun K hK => ?_) AllReadyH.nil
    refine step_app_row2 rfl (.tmp 217) (.tmp 225) 108 rfl W2.heap.size 126 i0 (.agg #[.string ⟨#[]⟩, .int .i64 0]) 24 Try.underlying108 hi0 hz0 hz1 hz2 rfl (.slice (some ⟨(W2.heap.size + 1), 0, none⟩) 0 0) 0 [] ?_ ?_ 0 (.slice a L cap) L (flatE E) ?_ ?_ ?_ ?_ ?_ ?_ ?_
    · simp [Act.eval, Act.put]; done
    · exact (own_empty _ _ _ _ (by simp) (by simp)).drew
    · simp [Act.eval, Act.put]; done
    · exact HSRC.out _ (‹Mo B W2 _ ∧ _›).1
    · exact fun u hu => flatE_one _ u hu
    · unfold maxLen; omega
    · omega
    · exact (‹Mo B W2 _ ∧ _›).1.size
    intro v5 w5 hown5 hgrow5 hbel5
    have hm5 : Mo B W2 w5 := (‹Mo B W2 _ ∧ _›).1.grow hbel5
    have hq5 : w5.heap[B]? = W2.heap[B]? := (hbel5.block B hBL).trans (Below.block ((((Below.refl W2.heap.size W2).drew).alloc (Nat.le_refl _) _).alloc (by simp) _) B hBL)
    refine hK.out _ _ ?_ (fun hHeld => ?_)
    · (try dsimp only); exact Sy.below hbel5 hTL hBL ‹Mo B W2 _ ∧ _›
    clear hK K
    try simp only [List.getElem_toArray, List.getElem_cons_zero, List.getElem_cons_succ, Act.put, List.setIfInBounds_toArray, List.set_cons_zero, List.set_cons_succ]
    refine wpAnyH_ready (rs := [19]) (by kernel_rfl) (by simp) ?_
    refine AllReadyH.cons rfl (fun K hK => ?_) AllReadyH.nil
    refine step_app_row2 rfl (.tmp 226) (.tmp 230) 108 rfl W2.heap.size 126 i0 (.agg #[.string ⟨#[]⟩, .int .i64 0]) 24 Try.underlying108 hi0 hz0 hz1 hz2 rfl v5 (0 + L) ([] ++ flatE E) ?_ ?_ 0 (.slice (some ⟨W2.heap.size, 0, none⟩) 1 1) 1 [.string sa, .int .i64 (kx : Int)] ?_ ?_ ?_ ?_ ?_ ?_ ?_
    · simp [Act.eval, Act.put]; done
    · exact hown5
    · simp [Act.eval, Act.put]; done
    · exact (((own_one _ _ _ _ _ rfl).below2 ((Below.refl _ _).alloc (Nat.le_refl _) _)).drew.kept hgrow5 (.inr (by simp [Value.ownBlock])))
    · exact fun u hu => by (simp only [List.mem_cons, List.not_mem_nil, or_false] at hu; rcases hu with rfl | rfl <;> rfl)
    · unfold maxLen; omega
    · omega
    · exact (‹Mo B W2 _ ∧ _›).1.size
    intro v8 w8 hown8 hgrow8 hbel8
    have hq8 : w8.heap[B]? = W2.heap[B]? := (hbel8.block B hBL).trans hq5
    have hm8 : Mo B W2 w8 := (‹Mo B W2 _ ∧ _›).1.grow hbel8
    obtain ⟨a8, n8, c8, rfl⟩ := own_slice hown8
    have hc8 : w8.cell? ⟨B, kb * 10 + 9, none⟩ = some (.slice a L cap) := (cell_block hq8 _).trans C9.out
    refine hK.out _ _ ?_ (fun hHeld => ?_)
    · (try dsimp only); exact Sy.below hbel8 hTL hBL ‹Mo B W2 _ ∧ _›
    clear hK K
    try simp only [List.getElem_toArray, List.getElem_cons_zero, List.getElem_cons_succ, Act.put, List.setIfInBounds_toArray, List.set_cons_zero, List.set_cons_succ]
    refine wpAnyH_take (i := 20) (v := ?_) rfl (by kernel_rfl) (by kernel_rfl) (by kernel_rfl) (fun _ _ _ h => h) (Or.inl ⟨by rfl, ?_⟩) (by assumption) ?_
    rotate_left
    · (intro W hSw; (try dsimp only at hSw); go_simp; try with_reducible rfl)
    try simp only [List.getElem_toArray, List.getElem_cons_zero, List.getElem_cons_succ, Act.put, List.setIfInBounds_toArray, List.set_cons_zero, List.set_cons_succ]
    refine wpAnyH_take (i := 21) (v := ?_) rfl (by kernel_rfl) (by kernel_rfl) (by kernel_rfl) (fun _ _ _ h => h) (Or.inl ⟨by rfl, ?_⟩) (by assumption) ?_
    rotate_left
    · (intro W hSw; (try dsimp only at hSw); go_simp; try with_reducible rfl)
    try simp only [List.getElem_toArray, List.getElem_cons_zero, List.getElem_cons_succ, Act.put, List.setIfInBounds_toArray, List.set_cons_zero, List.set_cons_succ]
    refine wpAnyH_ready (rs := [22]) (by kernel_rfl) (by simp) ?_
    refine AllReadyH.cons rfl (fun K hK => ?_) AllReadyH.nil
    simp only [List.getElem_toArray, List.getElem_cons_zero, List.getElem_cons_succ]
    go_simp
    refine hK.out _ _ ?_ (fun hHeld => ?_)
    · (try dsimp only); exact Sy.set hTB ‹Mo B W2 _ ∧ _› _
    clear hK K
    try simp only [List.getElem_toArray, List.getElem_cons_zero, List.getElem_cons_succ, Act.put, List.setIfInBounds_toArray, List.set_cons_zero, List.set_cons_succ]
    refine wpAnyH_done (by kernel_rfl) ?_ _
    have hRF := (HRF.out.moEq hm8 hq8).set hb2 (show 9 < 10 by omega) (.slice a8 n8 c8) { G2 kb with sl := .slice a8 n8 c8, ents := (G2 kb).ents ++ [(sa, kx)] } rfl (ent_of hown8 (G2 kb) ((G2 kb).ents ++ [(sa, kx)]) (by rw [List.length_append, HG.out, ← HLE.out]; simp) (by rw [flatE_app, List.nil_append, HG.out]; rfl))
    have hMO := (HM1.out.trans hm8).set (i := kb * 10 + 9) (.slice a8 n8 c8)
    clear hown8 hgrow8 hbel8 hown5 hgrow5 hbel5 hm8 hq8 hm5 hq5 hc8
    generalize w8.setCell ⟨B, kb * 10 + 9, none⟩ (.slice a8 n8 c8) = W3 at *
    have ht3 := HT3.out (.slice a8 n8 c8)
    obtain ⟨G3, hG3⟩ : ∃ G3, updG G2 kb { G2 kb with sl := .slice a8 n8 c8, ents := (G2 kb).ents ++ [(sa, kx)] } = G3 := ⟨_, rfl⟩
    rw [hG3] at hRF ht3
    clear hG3 c0 b9 s9
    have x1 := hRF.c1 kx hx2
    rw [(ht3.sok kx _ HX3.out).kind] at x1
    have x6 := hRF.c6 kx hx2
    rw [(ht3.sok kx _ HX3.out).holds] at x6
    dsimp only at x1 x6
    obtain ⟨hv, hhv⟩ : ∃ hv : Int, ((m.holds + 1 : Nat) : Int) = hv := ⟨_, rfl⟩
    have hv1 : 1 ≤ hv := by omega
    have hv2 : hv ≤ 1000001 := by omega
    rw [hhv] at x6
    have s6 := hRF.frozen (kx * 10 + 6)
    have c0 := hRF.cellT
    have HRF3 := Lib.hid hRF
    have HTI3 := Lib.hid ht3
    have HMO3 := Lib.hid hMO
    have HHV := Lib.hid hhv
    clear hRF ht3 hMO hhv
    first
    | rw [HKD.out] at x1
      have s7 := HRF3.out.frozen (kx * 10 + 7)
      have x7 := HRF3.out.c7 kx hx2
      go_wp2_with fail
      refine (HEND.out _ _ ((HRF3.out.set hx2 (show 7 < 10 by omega) (.int .i64 (kb : Int)) { G3 kx with parent := (kb : Int) } rfl (HRF3.out.ents kx hx2)).set hx2 (show 6 < 10 by omega) (.int .i64 (hv - 1)) { (updG G3 kx { G3 kx with parent := (kb : Int) }) kx with holds := hv - 1 } rfl ((HRF3.out.set hx2 (show 7 < 10 by omega) (.int .i64 (kb : Int)) { G3 kx with parent := (kb : Int) } rfl (HRF3.out.ents kx hx2)).ents kx hx2)) (by rw [← HFX.out]; exact HTI3.out.endD HX3.out HKD.out HHV.out kb) ((HMO3.out.set _).set _)).mono ?_
      rintro e w9 ⟨rfl, hs⟩
      have HS := Lib.hid hs
      clear hs
      go_wp2
      go_ret
      exact ⟨rfl, HS.out⟩
    | go_wp2_with fail
      refine (HEND.out _ _ (HRF3.out.set hx2 (show 6 < 10 by omega) (.int .i64 (hv - 1)) { G3 kx with holds := hv - 1 } rfl (HRF3.out.ents kx hx2)) (by rw [← HFX.out]; exact HTI3.out.endF HX3.out HHV.out) (HMO3.out.set _)).mono ?_
      rintro e w9 ⟨rfl, hs⟩
      have HS := Lib.hid hs
      clear hs
      go_wp2
      go_ret
      exact ⟨rfl, HS.out⟩
end Go.Proofs.Ytafonmnfeibaiaa.RF
namespace Go.Proofs.Ytafonmnfeibaiaa.RF
open Go.RowKit Classical

/-! ### the document's tree: Move, all its answers -/
theorem rf_move {w : World} {t B : Nat} {G : Gt} {T : IT.Tr} (h : Trf w t B G T) (hb : HB T 1000000) (d b : Int) (s sa : ByteArray) :
    Calls Try.prog 67 #[.pointer (some ⟨t, 0, none⟩), .int .i64 d, .string s, .int .i64 b, .string sa] w fun e w' => ∃ r, e = .returned (.int .i64 r) ∧ Stf w t B (fun T' => IT.isMove okN T d.toNat (bs s) b.toNat (bs sa) r T') w' := by
  have hstay2 : ∀ {r : Int} {e : Ending} {w' : World}, IT.isMove okN T d.toNat (bs s) b.toNat (bs sa) r T → e = .returned (.int .i64 r) ∧ Below w.heap.size w w' → ∃ r, e = .returned (.int .i64 r) ∧ Stf w t B (fun T' => IT.isMove okN T d.toNat (bs s) b.toNat (bs sa) r T') w' := by
    rintro r e w' hr ⟨rfl, hbl⟩
    exact ⟨r, rfl, Stf.keep h hbl hr⟩
  have hstay : ∀ {r : Int} {e : Ending} {w' : World}, IT.isMove okN T d.toNat (bs s) b.toNat (bs sa) r T → e = .returned (.int .i64 r) ∧ w = w' → ∃ r, e = .returned (.int .i64 r) ∧ Stf w t B (fun T' => IT.isMove okN T d.toNat (bs s) b.toNat (bs sa) r T') w' := by
    rintro r e w' hr ⟨rfl, rfl⟩
    exact hstay2 hr ⟨rfl, Below.refl _ _⟩
  cases hd : T d.toNat with
  | none =>
    refine (rf_move_no h d b s sa (.inl hd)).mono fun e w' => hstay ?_
    unfold IT.isMove; rw [hd]; exact ⟨rfl, rfl⟩
  | some n =>
  cases hq : T b.toNat with
  | none =>
    refine (rf_move_no h d b s sa (.inr hq)).mono fun e w' => hstay ?_
    unfold IT.isMove; rw [hd, hq]; exact ⟨rfl, rfl⟩
  | some q =>
  obtain ⟨kd, rfl, _, _, _⟩ := h.nat hd
  obtain ⟨kb, rfl, _, _, _⟩ := h.nat hq
  simp only [Int.toNat_natCast] at hstay hstay2 hd hq ⊢
  by_cases hk : n.kind ≠ 1 ∨ q.kind ≠ 1
  · refine (rf_move_nodir h s sa hd hq hk).mono fun e w' => hstay ?_
    unfold IT.isMove; rw [hd, hq]; dsimp only; rw [if_pos hk]; exact ⟨rfl, rfl⟩
  have hk1 : n.kind = 1 := Decidable.not_not.1 fun hh => hk (.inl hh)
  have hkb : q.kind = 1 := Decidable.not_not.1 fun hh => hk (.inr hh)
  rcases h.ties.find h.snd.1 hd s with ⟨hf, g2⟩ | ⟨i, kx, hf, hi, hi2⟩
  · refine (rf_move_none h s sa hd hq hk1 hkb hf).mono fun e w' => hstay ?_
    unfold IT.isMove; rw [hd, hq]; dsimp only; rw [if_neg hk, hf]; exact ⟨rfl, rfl⟩
  obtain ⟨m, hx⟩ := (h.ties.lead h.snd.1 hd (List.mem_of_getElem? hi)).2
  have hE : ∀ {r : Int}, (if okN (bs sa) = false then r = 1 ∧ T = T
        else if m.kind = 1 ∧ IT.Bel T kx kb then r = 8 ∧ T = T
        else match IT.findN (bs sa) q.names with
          | none =>
            if kd ≠ kb ∧ q.names.length ≥ 40 then r = 9 ∧ T = T
            else r = 0 ∧ ∃ q1 m1, IT.delT T kd kx (bs s) n m kb = some q1 ∧ IT.delT T kd kx (bs s) n m kx = some m1 ∧ T = IT.entT (IT.delT T kd kx (bs s) n m) kb kx (bs sa) q1 m1
          | some y => if y = kx then r = 0 ∧ T = T
            else ∃ mw, T y = some mw ∧
              if ¬ (mw.kind = 1 ↔ m.kind = 1) then r = 7 ∧ T = T
              else if mw.names ≠ [] then r = 8 ∧ T = T
              else r = 0 ∧ ∃ q1 q2 m2, IT.delT T kd kx (bs s) n m kb = some q1 ∧ IT.delT (IT.delT T kd kx (bs s) n m) kb y (bs sa) q1 mw kb = some q2 ∧ IT.delT (IT.delT T kd kx (bs s) n m) kb y (bs sa) q1 mw kx = some m2 ∧ IT.NF (IT.entT (IT.delT (IT.delT T kd kx (bs s) n m) kb y (bs sa) q1 mw) kb kx (bs sa) q2 m2) T) → IT.isMove okN T kd (bs s) kb (bs sa) r T := fun {r} hh => by
    unfold IT.isMove; rw [hd, hq]; dsimp only; rw [if_neg hk, hf]; exact ⟨m, hx, hh⟩
  cases hok : okN (bs sa) with
  | false =>
    refine (rf_move_name h s sa hd hq hk1 hkb hf hx hi hi2 hok).mono fun e w' => hstay (hE ?_)
    rw [if_pos hok]; exact ⟨rfl, rfl⟩
  | true =>
  have hok' : ¬ okN (bs sa) = false := by rw [hok]; intro e; cases e
  by_cases hbe : m.kind = 1 ∧ IT.Bel T kx kb
  · refine (rf_move_busy h s sa hd hq hk1 hkb hf hx hi hi2 hok hbe.1 hbe.2).mono fun e w' => hstay (hE ?_)
    rw [if_neg hok', if_pos hbe]; exact ⟨rfl, rfl⟩
  rcases h.ties.find h.snd.1 hq sa with ⟨hfa, g2⟩ | ⟨j, kw, hfa, hj, hj2⟩
  · by_cases hfull : kd ≠ kb ∧ q.names.length ≥ 40
    · refine (rf_move_full h s sa hd hq hk1 hkb hf hx hi hi2 hok hbe hfa hfull.1 hfull.2).mono fun e w' => hstay (hE ?_)
      rw [if_neg hok', if_neg hbe, hfa]; dsimp only; rw [if_pos hfull]; exact ⟨rfl, rfl⟩
    · exact (rf_move_to h hb s sa hd hq hk1 hkb hf hx hi hi2 hok hbe hfa hfull).mono fun e w' hh => ⟨0, hh⟩
  by_cases hwx : kw = kx
  · subst hwx
    refine (rf_move_same h s sa hd hq hk1 hkb hf hx hi hi2 hok hbe hfa hj hj2).mono fun e w' => hstay (hE ?_)
    rw [if_neg hok', if_neg hbe, hfa]; dsimp only; rw [if_pos rfl]; exact ⟨rfl, rfl⟩
  obtain ⟨mw, hw⟩ := (h.ties.lead h.snd.1 hq (List.mem_of_getElem? hj)).2
  by_cases hkk : (mw.kind = 1 ↔ m.kind = 1)
  · by_cases hmw : mw.names = []
    · exact (rf_move_over h hb s sa hd hq hk1 hkb hf hx hi hi2 hok hbe hfa hj hj2 hwx hw hkk hmw).mono fun e w' hh => ⟨0, hh⟩
    · refine (rf_move_kept h s sa hd hq hk1 hkb hf hx hi hi2 hok hbe hfa hj hj2 hwx hw hkk hmw).mono fun e w' => hstay2 (hE ?_)
      rw [if_neg hok', if_neg hbe, hfa]; dsimp only; rw [if_neg hwx]
      refine ⟨mw, hw, ?_⟩
      rw [if_neg (not_not_intro hkk), if_pos hmw]; exact ⟨rfl, rfl⟩
  · refine (rf_move_kind h s sa hd hq hk1 hkb hf hx hi hi2 hok hbe hfa hj hj2 hwx hw hkk).mono fun e w' => hstay2 (hE ?_)
    rw [if_neg hok', if_neg hbe, hfa]; dsimp only; rw [if_neg hwx]
    refine ⟨mw, hw, ?_⟩
    rw [if_pos hkk]; exact ⟨rfl, rfl⟩
end Go.Proofs.Ytafonmnfeibaiaa.RF
namespace Go.Proofs.Ytafonmnfeibaiaa.RF
open Go.RowKit

/-! ### the document's tree: New -/
def noG : Gt := fun _ => noRN
def zeroA : Array Value := #[.bool false, .int .i64 0, .int .i64 0, .int .i64 0, .int .i64 0, .int .i64 0, .int .i64 0, .int .i64 0, .string ⟨#[]⟩, .slice none 0 0]
theorem rowA_none : madeCells zeroA 2010 = rowA noG := by
  apply Array.ext_getElem?
  intro i
  rw [madeCells]
  by_cases hi : i < 2010
  · rw [rowA_get _ i hi]
    have hm : i % 10 < 10 := Nat.mod_lt _ (by omega)
    have h1 : (Array.map (fun x => zeroA[x % zeroA.size]!) (Array.range 2010))[i]? = some (zeroA[i % 10]!) := by
      rw [Array.getElem?_map, Array.getElem?_range]
      rw [if_pos hi]
      rfl
    rw [h1]
    show some (zeroA[i % 10]!) = zeroA.toList[i % 10]?
    have h2 : zeroA.size = 10 := rfl
    rw [getElem!_pos zeroA (i % 10) (by rw [h2]; exact hm), ← Array.getElem?_eq_getElem, Array.getElem?_toList]
  · have h1 : (rowA noG)[i]? = none := Array.getElem?_eq_none (by rw [rowA_size]; omega)
    rw [h1, Array.getElem?_eq_none]
    rw [Array.size_map, Array.size_range]
    omega
theorem info_inode : (Try.prog.info? 110).map (fun i => (i.zero, i.size, i.bytes)) = some (some (.agg zeroA), 10, 104) := by kernel_rfl
theorem make_row (w : World) : (Instr.makeSlice 105 (.int .i64 201) (.int .i64 201)).run Try.prog w = .ok (.slice (some ⟨w.heap.size, 0, none⟩) 201 201) (w.alloc (.cells (rowA noG) 110)) := by
  obtain ⟨i, hi, hz, hs, hb⟩ := info_parts info_inode
  have hr := run_make (P := Try.prog) w 105 110 i (.agg zeroA) (by kernel_rfl) hi hz .i64 .i64 201 201 (by omega) (by omega) (by rw [hb]; omega) (by omega)
  rw [hs] at hr
  rw [← rowA_none]
  exact hr
def rootI (mo o g : Int) : List Value := [.bool true, .int .i64 1, .int .i64 mo, .int .i64 o, .int .i64 g, .int .i64 0, .int .i64 0, .int .i64 1, .string ⟨#[]⟩, .slice none 0 0]
theorem Rf.empty (w : World) : Rf ((w.alloc (.cells (rowA noG) 110)).alloc (.cells #[.slice (some ⟨w.heap.size, 0, none⟩) 201 201] 107)) (w.heap.size + 1) w.heap.size noG where
  tree := by
    have := alloc_heap (w.alloc (.cells (rowA noG) 110)) (.cells #[.slice (some ⟨w.heap.size, 0, none⟩) 201 201] 107)
    rw [alloc_size] at this
    exact this
  row := (alloc_heap_old _ _ (by rw [alloc_size]; omega)).trans (alloc_heap _ _)
  ents := fun k _ => EntAt.nil _ _ rfl rfl
theorem Tie.root (mo o g : Int) : Tie (updG noG 1 ⟨true, 1, mo, o, g, 0, 0, 1, ⟨#[]⟩, .slice none 0 0, []⟩) (IT.rootT mo o g) where
  nok := fun k _ hn => by
    unfold IT.rootT at hn
    by_cases e : k = 1
    · rw [if_pos e] at hn; cases hn
    · rw [updG_other _ _ e]; exact ⟨rfl, rfl⟩
  sok := fun k m hm => by
    obtain ⟨rfl, rfl⟩ := IT.rootT_get hm
    rw [updG_same]
    exact ⟨rfl, rfl, rfl, rfl, rfl, rfl, rfl, fun _ => rfl, rfl, List.Perm.refl _⟩
set_option maxRecDepth 100000 in
set_option maxHeartbeats 2000000 in
theorem rf_new (mo o g : Int) (hmo : mo < 9223372036854775808) (w : World) (hr : rightB mo o g = true) :
    Calls Try.prog 28 #[.int .i64 mo, .int .i64 o, .int .i64 g] w fun e w' => ∃ t B G, e = .returned (.pointer (some ⟨t, 0, none⟩)) ∧ w.heap.size ≤ t ∧ w.heap.size ≤ B ∧ Below w.heap.size w w' ∧ Trf w' t B G (IT.rootT mo o g) := by
  rw [right_ids] at hr
  simp only [Bool.and_eq_true] at hr
  have HR := Lib.hid (Md.rright_any mo hmo w)
  have HO := Lib.hid (rf_id o w)
  have HG := Lib.hid (rf_id g w)
  rw [hr.1] at HR
  rw [hr.2.1] at HO
  rw [hr.2.2] at HG
  have hmk := make_row
  have HR0 := Lib.hid (Rf.empty w)
  have HB0 : Hid (Below w.heap.size w ((w.alloc (.cells (rowA noG) 110)).alloc (.cells #[.slice (some ⟨w.heap.size, 0, none⟩) 201 201] 107))) := Lib.hid (((Below.refl _ _).alloc (Nat.le_refl _) _).alloc (by rw [alloc_size]; omega) _)
  clear hr hmo
  generalize hA : rowA noG = A at *
  have HA := Lib.hid hA
  clear hA
  go_enter Try.func28, Try.ntmps28
  go_wp2_with fail
  refine HR.out.mono ?_
  rintro e w2 ⟨rfl, rfl⟩
  go_wp2_with fail
  refine HO.out.mono ?_
  rintro e w2 ⟨rfl, rfl⟩
  go_wp2_with fail
  refine HG.out.mono ?_
  rintro e w2 ⟨rfl, rfl⟩
  go_upto_region 5 with fail
  have hrf := HR0.out
  have hb := HB0.out
  clear HR0 HB0 hmk
  generalize (w2.alloc (.cells A 110)).alloc (.cells #[.slice (some ⟨w2.heap.size, 0, none⟩) 201 201] 107) = W5 at *
  have c0 := hrf.cellT
  have hT : W5.there w2.heap.size 10 (rootI mo o g).toArray.size := hrf.there (k := 1) (by omega)
  have hI : (Try.prog.info? 110).map (·.size) = some (rootI mo o g).toArray.size := rfl
  have h1C : (rootI mo o g).toArray.all (·.oneCell') = true := by simp [rootI, Value.oneCell']
  have hs := hrf.setAll (k := 1) (by omega) ⟨true, 1, mo, o, g, 0, 0, 1, ⟨#[]⟩, .slice none 0 0, []⟩ (EntAt.nil _ _ rfl rfl)
  have hbl : Below w2.heap.size w2 (W5.setCells w2.heap.size 10 (rootI mo o g).toArray.toList) := below_setCells (Nat.le_refl _) _ _ _ hb
  have hs2 : Rf (W5.setCells w2.heap.size 10 (rootI mo o g).toArray.toList) (w2.heap.size + 1) w2.heap.size (updG noG 1 ⟨true, 1, mo, o, g, 0, 0, 1, ⟨#[]⟩, .slice none 0 0, []⟩) := hs
  clear hs hb hrf
  go_wp2_with (refine wpList_store_mid rfl 110 _ _ rfl w2.heap.size 10 (rootI mo o g).toArray rfl rfl hT hI h1C ?_; generalize World.setCells W5 w2.heap.size 10 (rootI mo o g).toArray.toList = W6 at hs2 hbl ⊢; have HS := Lib.hid hs2; have HL := Lib.hid hbl; clear hs2 hbl hT hI h1C c0)
  go_ret
  exact ⟨w2.heap.size + 1, w2.heap.size, _, rfl, Nat.le_succ _, Nat.le_refl _, HL.out, HS.out, Tie.root _ _ _, IT.rootT_sound _ _ _ _⟩
set_option maxRecDepth 100000 in
set_option maxHeartbeats 2000000 in
theorem rf_new_bad (mo o g : Int) (hmo : mo < 9223372036854775808) (w : World) (hr : rightB mo o g = false) :
    Calls Try.prog 28 #[.int .i64 mo, .int .i64 o, .int .i64 g] w fun e w' => e = .returned (.pointer none) ∧ w = w' := by
  rw [right_ids] at hr
  have HR := Lib.hid (Md.rright_any mo hmo w)
  have HO := Lib.hid (rf_id o w)
  have HG := Lib.hid (rf_id g w)
  clear hmo
  generalize Md.rightB mo = rm at *
  generalize idB o = ro at *
  generalize idB g = rg at *
  cases rm with
  | false =>
    clear hr
    go_enter Try.func28, Try.ntmps28
    go_wp2_with fail
    refine HR.out.mono ?_
    rintro e w2 ⟨rfl, rfl⟩
    go_wp2
    go_ret
    exact ⟨rfl, rfl⟩
  | true =>
    cases ro with
    | false =>
      clear hr
      go_enter Try.func28, Try.ntmps28
      go_wp2_with fail
      refine HR.out.mono ?_
      rintro e w2 ⟨rfl, rfl⟩
      go_wp2_with fail
      refine HO.out.mono ?_
      rintro e w2 ⟨rfl, rfl⟩
      go_wp2
      go_ret
      exact ⟨rfl, rfl⟩
    | true =>
      obtain rfl : rg = false := by simpa using hr
      clear hr
      go_enter Try.func28, Try.ntmps28
      go_wp2_with fail
      refine HR.out.mono ?_
      rintro e w2 ⟨rfl, rfl⟩
      go_wp2_with fail
      refine HO.out.mono ?_
      rintro e w2 ⟨rfl, rfl⟩
      go_wp2_with fail
      refine HG.out.mono ?_
      rintro e w2 ⟨rfl, rfl⟩
      go_wp2
      go_ret
      exact ⟨rfl, rfl⟩
end Go.Proofs.Ytafonmnfeibaiaa.RF
namespace Go.Proofs.Ytafonmnfeibaiaa
open Go.RowKit

def DownPost (T : IT.Tr) (c : Cr) (cwd : Int) (abs : Bool) (l : List ByteArray) (w : World) (e : Ending) (w' : World) : Prop :=
  ∃ v : Value, e = .returned (.tuple #[v, .int .i64 (goT T c cwd abs (l.map bs)).2]) ∧ v = (if (goT T c cwd abs (l.map bs)).2 = 0 then statV T (goT T c cwd abs (l.map bs)).1 else noInfo) ∧ Below w.heap.size w w'
theorem downPost_err {T : IT.Tr} {c : Cr} {cwd : Int} {abs : Bool} {l : List ByteArray} {w w' : World} {k : Nat} {r : Int} (h : goT T c cwd abs (l.map bs) = (k, r)) (hr : r ≠ 0) (hb : Below w.heap.size w w') : DownPost T c cwd abs l w (.returned (.tuple #[noInfo, .int .i64 r])) w' := by
  unfold DownPost
  rw [h]
  exact ⟨_, rfl, by rw [if_neg hr], hb⟩
theorem downPost_ok {T : IT.Tr} {c : Cr} {cwd : Int} {abs : Bool} {l : List ByteArray} {w w' : World} {k : Nat} {v : Value} (h : goT T c cwd abs (l.map bs) = (k, 0)) (hv : v = statV T k) (hb : Below w.heap.size w w') : DownPost T c cwd abs l w (.returned (.tuple #[v, .int .i64 0])) w' := by
  unfold DownPost
  rw [h]
  exact ⟨_, rfl, by rw [if_pos rfl]; exact hv, hb⟩
theorem drop_map {l : List ByteArray} {j : Nat} (h : j < l.length) : (l.drop j).map bs = bs l[j] :: (l.drop (j + 1)).map bs := by
  rw [List.drop_eq_getElem_cons h, List.map_cons]
theorem DI.store {w W : World} {t : Nat} {cwd : Int} {c : Cr} {T : IT.Tr} {B R X k k2 : Nat} {m m2 : IT.Nd} (h : DI w t cwd c T B R X k m W) (hm : T k2 = some m2) (hb : B ≠ X) (hr : R ≠ X) (hx : w.heap.size ≤ X) : DI w t cwd c T B R X k2 m2 ((((((((W.setCell ⟨X, 0, none⟩ (.int .i64 k2)).setCell ⟨X, 1, none⟩ (.int .i64 m2.kind)).setCell ⟨X, 2, none⟩ (.int .i64 m2.mode)).setCell ⟨X, 3, none⟩ (.int .i64 m2.owner)).setCell ⟨X, 4, none⟩ (.int .i64 m2.group)).setCell ⟨X, 5, none⟩ (.int .i64 (IT.lnk T k2 : Nat))).setCell ⟨X, 6, none⟩ (.int .i64 (m2.data.length + m2.names.length : Nat))).setCell ⟨X, 7, none⟩ (.int .i64 m2.tty)) :=
  ⟨below_set8 h.below hx, (heap_set8_other hb).trans h.a, (heap_set8_other hr).trans h.r, heap_set8 h.x, hm⟩
theorem down_step {T : IT.Tr} {c : Cr} {k : Nat} {m : IT.Nd} {n : IT.Bytes} (h : T k = some m) (he : entersE m c = 0) (L : List IT.Bytes) : downT T c k (n :: L) = match lookT T k n with
    | none => (0, 3)
    | some j => downT T c j L := by
  conv => lhs; unfold downT
  rw [h]
  dsimp only
  rw [if_neg (fun e => e he)]
  all_goals (cases lookT T k n <;> rfl)
theorem belowA {w W : World} (h : Below w.heap.size w W) (o : Obj) : Below w.heap.size w (W.alloc o) := h.alloc h.size o
theorem stat_eq {T : IT.Tr} {k : Nat} {m : IT.Nd} (h : T k = some m) : .agg (infC T k m) = statV T k := by rw [stat_infoV h]; rfl
set_option maxRecDepth 100000 in
set_option maxHeartbeats 4000000 in
theorem wdown_root {w : World} {t : Nat} {S : Tab} {T : IT.Tr} (h : Tre w t S T) (cwd : Int) (c : Cr) (a : Option Addr) (cap : Nat) (l : List ByteArray) (hrow : Row w a l) (hl : l.length ≤ maxLen) :
    Calls Try.prog 75 #[ask t cwd c, .bool true, .slice a l.length cap] w (DownPost T c cwd true l w) := by
  have HR := Lib.hid hrow
  have H := Lib.hid h
  unfold maxLen at hl
  have h2t := h.mv ((Mv.refl h.rep).alloc (.cells (askC t cwd c) 74))
  have h3t := h2t.mv ((Mv.refl h2t.rep).alloc (.cells zeroC 35))
  have h3 := stat_any h3t 1
  have hzr : ((w.alloc (.cells (askC t cwd c) 74)).alloc (.cells zeroC 35)).heap[w.heap.size + 1]? = some (.cells zeroC 35 (0, 0)) := by
    have := alloc_heap (w.alloc (Obj.cells (askC t cwd c) 74)) (Obj.cells zeroC 35)
    rw [alloc_size] at this
    exact this
  have hza : ((w.alloc (.cells (askC t cwd c) 74)).alloc (.cells zeroC 35)).heap[w.heap.size]? = some (.cells (askC t cwd c) 74 (0, 0)) := by
    rw [alloc_heap_old _ _ (by rw [alloc_size]; omega), alloc_heap]
  have hzb : Below w.heap.size w ((w.alloc (.cells (askC t cwd c) 74)).alloc (.cells zeroC 35)) := ((Below.refl _ _).alloc (Nat.le_refl _) _).alloc (by rw [alloc_size]; omega) _
  have hzs : ((w.alloc (.cells (askC t cwd c) 74)).alloc (.cells zeroC 35)).heap.size = w.heap.size + 1 + 1 := by rw [alloc_size, alloc_size]
  have HZ := Lib.hid (And.intro hzr (And.intro hza (And.intro hzb hzs)))
  clear h hrow h2t h3t hzr hza hzb hzs
  cases hT : T (startT cwd true) with
  | none =>
    have HG : Hid (goT T c cwd true (l.map bs) = (0, 3)) := Lib.hid (by unfold goT; rw [if_pos hT])
    have HC : Hid (Calls Try.prog 14 #[.pointer (some ⟨t, 0, none⟩), .int .i64 1] ((w.alloc (.cells (askC t cwd c) 74)).alloc (.cells zeroC 35)) fun e w' => e = .returned (.tuple #[.agg #[.int .i64 0, .int .i64 0, .int .i64 0, .int .i64 0, .int .i64 0, .int .i64 0, .int .i64 0, .int .i64 0], .bool false]) ∧ Below ((w.alloc (.cells (askC t cwd c) 74)).alloc (.cells zeroC 35)).heap.size ((w.alloc (.cells (askC t cwd c) 74)).alloc (.cells zeroC 35)) w') := Lib.hid (h3.mono (by
      rintro e w' ⟨rfl, hb⟩
      have hT' : T (1 : Int).toNat = none := hT
      refine ⟨by unfold statV; rw [hT']; rfl, hb⟩))
    clear h3 hT
    unfold ask
    go_enter Try.func75, Try.ntmps75
    go_wp2_with fail
    refine HC.out.mono ?_
    rintro e w1 ⟨rfl, hb⟩
    have HB := Lib.hid hb
    have hs : w.heap.size + 1 + 1 ≤ w1.heap.size := by have := hb.size; rwa [HZ.out.2.2.2] at this
    have hr : w1.heap[w.heap.size + 1]? = some (.cells zeroC 35 (0, 0)) := by
      rw [hb.block _ (by rw [HZ.out.2.2.2]; omega)]; exact HZ.out.1
    have r0 : w1.cell? ⟨w.heap.size + 1, 0, none⟩ = some (.int .i64 0) := cell_of hr 0
    have f0 : w1.frozen? ⟨w.heap.size + 1, 0, none⟩ = false := frozen_of hr 0
    have r1 : w1.cell? ⟨w.heap.size + 1, 1, none⟩ = some (.int .i64 0) := cell_of hr 1
    have f1 : w1.frozen? ⟨w.heap.size + 1, 1, none⟩ = false := frozen_of hr 1
    have r2 : w1.cell? ⟨w.heap.size + 1, 2, none⟩ = some (.int .i64 0) := cell_of hr 2
    have f2 : w1.frozen? ⟨w.heap.size + 1, 2, none⟩ = false := frozen_of hr 2
    have r3 : w1.cell? ⟨w.heap.size + 1, 3, none⟩ = some (.int .i64 0) := cell_of hr 3
    have f3 : w1.frozen? ⟨w.heap.size + 1, 3, none⟩ = false := frozen_of hr 3
    have r4 : w1.cell? ⟨w.heap.size + 1, 4, none⟩ = some (.int .i64 0) := cell_of hr 4
    have f4 : w1.frozen? ⟨w.heap.size + 1, 4, none⟩ = false := frozen_of hr 4
    have r5 : w1.cell? ⟨w.heap.size + 1, 5, none⟩ = some (.int .i64 0) := cell_of hr 5
    have f5 : w1.frozen? ⟨w.heap.size + 1, 5, none⟩ = false := frozen_of hr 5
    have r6 : w1.cell? ⟨w.heap.size + 1, 6, none⟩ = some (.int .i64 0) := cell_of hr 6
    have f6 : w1.frozen? ⟨w.heap.size + 1, 6, none⟩ = false := frozen_of hr 6
    have r7 : w1.cell? ⟨w.heap.size + 1, 7, none⟩ = some (.int .i64 0) := cell_of hr 7
    have f7 : w1.frozen? ⟨w.heap.size + 1, 7, none⟩ = false := frozen_of hr 7
    have hs1 : w.heap.size + 1 < w1.heap.size := by omega
    have hs2 : w.heap.size < w1.heap.size := by omega
    have HRR := Lib.hid hr
    clear hb hr hs
    go_wp2
    refine bodyPost_ret (ret_info rfl rfl ((alloc_heap_old _ _ (by simpa [World.setCell] using hs1)).trans (heap_set8 HRR.out))) rfl ?_
    exact downPost_err HG.out (by decide) (belowA (below_set8 (HZ.out.2.2.1.trans (HB.out.mono (by rw [HZ.out.2.2.2]; omega))) (by omega)) _)
  | some m0 =>
    have HC : Hid (Calls Try.prog 14 #[.pointer (some ⟨t, 0, none⟩), .int .i64 1] ((w.alloc (.cells (askC t cwd c) 74)).alloc (.cells zeroC 35)) fun e w' => e = .returned (.tuple #[.agg (infC T (startT cwd true) m0), .bool true]) ∧ Below ((w.alloc (.cells (askC t cwd c) 74)).alloc (.cells zeroC 35)).heap.size ((w.alloc (.cells (askC t cwd c) 74)).alloc (.cells zeroC 35)) w') := Lib.hid (h3.mono (by
      rintro e w' ⟨rfl, hb⟩
      have hT' : T (1 : Int).toNat = some m0 := hT
      refine ⟨by unfold statV; rw [hT']; rfl, hb⟩))
    have HG : Hid (goT T c cwd true (l.map bs) = downT T c (startT cwd true) (l.map bs)) := Lib.hid (by unfold goT; rw [if_neg (by rw [hT]; intro e; cases e)])
    have HT := Lib.hid hT
    obtain ⟨k0, hk0⟩ : ∃ k0, k0 = startT cwd true := ⟨_, rfl⟩
    rw [← hk0] at HC HG HT
    clear h3 hT hk0
    unfold infC at HC
    unfold ask
    go_enter Try.func75, Try.ntmps75
    go_wp2_with fail
    refine HC.out.mono ?_
    rintro e w1 ⟨rfl, hb⟩
    have HD : Hid (DI w t cwd c T w.heap.size (w.heap.size + 1) w1.heap.size k0 m0 (w1.alloc (.cells (infC T k0 m0) 35))) := Lib.hid (by
      have hs := hb.size
      rw [HZ.out.2.2.2] at hs
      refine ⟨(HZ.out.2.2.1.trans (hb.mono (by rw [HZ.out.2.2.2]; omega))).alloc (by omega) _, ?_, ?_, alloc_heap _ _, HT.out⟩
      · rw [alloc_heap_old _ _ (by omega), hb.block _ (by rw [HZ.out.2.2.2]; omega)]; exact HZ.out.2.1
      · rw [alloc_heap_old _ _ (by omega), hb.block _ (by rw [HZ.out.2.2.2]; omega)]; exact HZ.out.1)
    have HS1 : Hid (w.heap.size + 1 < w1.heap.size) := Lib.hid (by have hs := hb.size; rw [HZ.out.2.2.2] at hs; omega)
    have HSz : Hid (w1.heap.size < (w1.alloc (.cells (infC T k0 m0) 35)).heap.size) := Lib.hid (by rw [alloc_size]; omega)
    clear hb HC
    go_wp2_with fail
    go_loopw [31] (fun iv wr => ∃ (j k : Nat) (m : IT.Nd), iv = .int .i64 j ∧ j ≤ l.length ∧ DI w t cwd c T w.heap.size (w.heap.size + 1) w1.heap.size k m wr ∧ downT T c k0 (l.map bs) = downT T c k ((l.drop j).map bs)) (fun iv _ => l.length - (intOf iv).toNat)
    case atStart => exact ⟨0, k0, m0, rfl, Nat.zero_le _, HD.out, rfl⟩
    case round =>
      clear HD
      obtain ⟨j, k, m, rfl, hj, hd, heq⟩ := hrel
      have HDI := Lib.hid hd
      have HQ := Lib.hid heq
      have a0 : wr.cell? ⟨w.heap.size, 0, none⟩ = some (.pointer (some ⟨t, 0, none⟩)) := hd.ca 0
      have a1 : wr.cell? ⟨w.heap.size, 1, none⟩ = some (.int .i64 cwd) := hd.ca 1
      have a2 : wr.cell? ⟨w.heap.size, 2, none⟩ = some (.int .i64 c.real) := hd.ca 2
      have a3 : wr.cell? ⟨w.heap.size, 3, none⟩ = some (.int .i64 c.eff) := hd.ca 3
      have a4 : wr.cell? ⟨w.heap.size, 4, none⟩ = some (.int .i64 c.saved) := hd.ca 4
      have a5 : wr.cell? ⟨w.heap.size, 5, none⟩ = some (.int .i64 c.group) := hd.ca 5
      have a6 : wr.cell? ⟨w.heap.size, 6, none⟩ = some (.int .i64 c.eg) := hd.ca 6
      have x0 : wr.cell? ⟨w1.heap.size, 0, none⟩ = some (.int .i64 (k : Int)) := hd.cx 0
      have x1 : wr.cell? ⟨w1.heap.size, 1, none⟩ = some (.int .i64 m.kind) := hd.cx 1
      have x2 : wr.cell? ⟨w1.heap.size, 2, none⟩ = some (.int .i64 m.mode) := hd.cx 2
      have x3 : wr.cell? ⟨w1.heap.size, 3, none⟩ = some (.int .i64 m.owner) := hd.cx 3
      have x4 : wr.cell? ⟨w1.heap.size, 4, none⟩ = some (.int .i64 m.group) := hd.cx 4
      have x5 : wr.cell? ⟨w1.heap.size, 5, none⟩ = some (.int .i64 (IT.lnk T k : Nat)) := hd.cx 5
      have x6 : wr.cell? ⟨w1.heap.size, 6, none⟩ = some (.int .i64 (m.data.length + m.names.length : Nat)) := hd.cx 6
      have x7 : wr.cell? ⟨w1.heap.size, 7, none⟩ = some (.int .i64 m.tty) := hd.cx 7
      by_cases hlt : j < l.length
      · obtain ⟨nb, no, rfl, hnb, hnc⟩ := HR.out j hlt
        have hn : wr.cell? ⟨nb, no + j, none⟩ = some (.string l[j]) := by rw [hd.below.cell (p := ⟨nb, no + j, none⟩) hnb]; exact hnc
        have hlt1 : (j : Int) < l.length := by omega
        have HN := Lib.hid (drop_map hlt)
        have HTre := Lib.hid (H.out.mv ((Mv.refl H.out.rep).below hd.below))
        clear hd heq hnc
        generalize hnm : l[j] = nm at *
        clear hnm
        go_wp2_with fail
        refine (wenters_any t cwd c _ _ _ _ _ _ _ _ _).mono ?_
        rintro e w2 ⟨r, rfl, hr, hb⟩
        have HD2 := Lib.hid (HDI.out.turn hb)
        have hd := HD2.out
        have HR2 : Hid (r = entersE m c) := Lib.hid hr
        clear hr a0 a1 a2 a3 a4 a5 a6 x0 x1 x2 x3 x4 x5 x6 x7 hn
        by_cases hz : r = 0
        · obtain rfl : r = 0 := hz
          have a0 : w2.cell? ⟨w.heap.size, 0, none⟩ = some (.pointer (some ⟨t, 0, none⟩)) := hd.ca 0
          have x0 : w2.cell? ⟨w1.heap.size, 0, none⟩ = some (.int .i64 (k : Int)) := hd.cx 0
          have HT2 := Lib.hid (HTre.out.mv ((Mv.refl HTre.out.rep).below hb))
          have HE0 := Lib.hid (down_step (T := T) (c := c) (n := bs nm) HDI.out.at_ HR2.out.symm)
          cases hlk : lookT T k (bs nm) with
          | none =>
            have r0 : w2.cell? ⟨w.heap.size + 1, 0, none⟩ = some (.int .i64 0) := hd.cr 0
            have f0 : w2.frozen? ⟨w.heap.size + 1, 0, none⟩ = false := hd.fr 0
            have r1 : w2.cell? ⟨w.heap.size + 1, 1, none⟩ = some (.int .i64 0) := hd.cr 1
            have f1 : w2.frozen? ⟨w.heap.size + 1, 1, none⟩ = false := hd.fr 1
            have r2 : w2.cell? ⟨w.heap.size + 1, 2, none⟩ = some (.int .i64 0) := hd.cr 2
            have f2 : w2.frozen? ⟨w.heap.size + 1, 2, none⟩ = false := hd.fr 2
            have r3 : w2.cell? ⟨w.heap.size + 1, 3, none⟩ = some (.int .i64 0) := hd.cr 3
            have f3 : w2.frozen? ⟨w.heap.size + 1, 3, none⟩ = false := hd.fr 3
            have r4 : w2.cell? ⟨w.heap.size + 1, 4, none⟩ = some (.int .i64 0) := hd.cr 4
            have f4 : w2.frozen? ⟨w.heap.size + 1, 4, none⟩ = false := hd.fr 4
            have r5 : w2.cell? ⟨w.heap.size + 1, 5, none⟩ = some (.int .i64 0) := hd.cr 5
            have f5 : w2.frozen? ⟨w.heap.size + 1, 5, none⟩ = false := hd.fr 5
            have r6 : w2.cell? ⟨w.heap.size + 1, 6, none⟩ = some (.int .i64 0) := hd.cr 6
            have f6 : w2.frozen? ⟨w.heap.size + 1, 6, none⟩ = false := hd.fr 6
            have r7 : w2.cell? ⟨w.heap.size + 1, 7, none⟩ = some (.int .i64 0) := hd.cr 7
            have f7 : w2.frozen? ⟨w.heap.size + 1, 7, none⟩ = false := hd.fr 7
            have HC : Hid (Calls Try.prog 26 #[.pointer (some ⟨t, 0, none⟩), .int .i64 (k : Int), .string nm] w2 fun e w' => e = .returned (.tuple #[.int .i64 0, .bool false]) ∧ w2 = w') := Lib.hid ((look_any HT2.out k nm).mono (by
              rintro e w' ⟨rfl, hw⟩
              exact ⟨by rw [show lookT T (k : Int).toNat (bs nm) = none from hlk]; rfl, hw⟩))
            have HLK := Lib.hid hlk
            clear hd hb hlk
            go_wp2_with fail
            refine HC.out.mono ?_
            rintro e wl ⟨rfl, rfl⟩
            go_wp2
            refine bodyPost_ret (ret_info rfl rfl (heap_set8 HD2.out.r)) rfl ?_
            refine downPost_err (k := 0) ?_ (by decide) (below_set8 HD2.out.below (by omega))
            rw [HG.out, HQ.out, HN.out, HE0.out, HLK.out]
          | some j2 =>
            obtain ⟨m2, hm2⟩ := look_there HTre.out.snd hlk
            have HM2 := Lib.hid hm2
            have HC : Hid (Calls Try.prog 26 #[.pointer (some ⟨t, 0, none⟩), .int .i64 (k : Int), .string nm] w2 fun e w' => e = .returned (.tuple #[.int .i64 (j2 : Int), .bool true]) ∧ w2 = w') := Lib.hid ((look_any HT2.out k nm).mono (by
              rintro e w' ⟨rfl, hw⟩
              exact ⟨by rw [show lookT T (k : Int).toNat (bs nm) = some j2 from hlk]; rfl, hw⟩))
            have HC2 : Hid (Calls Try.prog 14 #[.pointer (some ⟨t, 0, none⟩), .int .i64 (j2 : Int)] w2 fun e w' => e = .returned (.tuple #[.agg (infC T j2 m2), .bool true]) ∧ Below w2.heap.size w2 w') := Lib.hid ((stat_any HT2.out j2).mono (by
              rintro e w' ⟨rfl, hbb⟩
              have hT' : T (j2 : Int).toNat = some m2 := hm2
              refine ⟨by unfold statV; rw [hT']; rfl, hbb⟩))
            have HLK := Lib.hid hlk
            clear hd hb hlk hm2
            unfold infC at HC2
            go_wp2_with fail
            refine HC.out.mono ?_
            rintro e wl ⟨rfl, rfl⟩
            go_wp2_with fail
            refine HC2.out.mono ?_
            rintro e w3 ⟨rfl, hb⟩
            have HD3 := Lib.hid (HD2.out.turn hb)
            have hd := HD3.out
            have x0 : w3.cell? ⟨w1.heap.size, 0, none⟩ = some (.int .i64 (k : Int)) := hd.cx 0
            have x1 : w3.cell? ⟨w1.heap.size, 1, none⟩ = some (.int .i64 m.kind) := hd.cx 1
            have x2 : w3.cell? ⟨w1.heap.size, 2, none⟩ = some (.int .i64 m.mode) := hd.cx 2
            have x3 : w3.cell? ⟨w1.heap.size, 3, none⟩ = some (.int .i64 m.owner) := hd.cx 3
            have x4 : w3.cell? ⟨w1.heap.size, 4, none⟩ = some (.int .i64 m.group) := hd.cx 4
            have x5 : w3.cell? ⟨w1.heap.size, 5, none⟩ = some (.int .i64 (IT.lnk T k : Nat)) := hd.cx 5
            have x6 : w3.cell? ⟨w1.heap.size, 6, none⟩ = some (.int .i64 (m.data.length + m.names.length : Nat)) := hd.cx 6
            have x7 : w3.cell? ⟨w1.heap.size, 7, none⟩ = some (.int .i64 m.tty) := hd.cx 7
            have y0 : w3.frozen? ⟨w1.heap.size, 0, none⟩ = false := hd.fx 0
            have y1 : w3.frozen? ⟨w1.heap.size, 1, none⟩ = false := hd.fx 1
            have y2 : w3.frozen? ⟨w1.heap.size, 2, none⟩ = false := hd.fx 2
            have y3 : w3.frozen? ⟨w1.heap.size, 3, none⟩ = false := hd.fx 3
            have y4 : w3.frozen? ⟨w1.heap.size, 4, none⟩ = false := hd.fx 4
            have y5 : w3.frozen? ⟨w1.heap.size, 5, none⟩ = false := hd.fx 5
            have y6 : w3.frozen? ⟨w1.heap.size, 6, none⟩ = false := hd.fx 6
            have y7 : w3.frozen? ⟨w1.heap.size, 7, none⟩ = false := hd.fx 7
            clear hd hb
            go_wp2
            go_roundw
            case rel => exact ⟨j + 1, j2, m2, by go_num, by omega, HD3.out.store HM2.out (by have := HS1.out; omega) (by have := HS1.out; omega) (by have := HS1.out; omega), by rw [HQ.out, HN.out, HE0.out, HLK.out]⟩
            case measure => simp [intOf]; omega
        · have hz1 : (r != 0) = true := by simpa using hz
          have r0 : w2.cell? ⟨w.heap.size + 1, 0, none⟩ = some (.int .i64 0) := hd.cr 0
          have f0 : w2.frozen? ⟨w.heap.size + 1, 0, none⟩ = false := hd.fr 0
          have r1 : w2.cell? ⟨w.heap.size + 1, 1, none⟩ = some (.int .i64 0) := hd.cr 1
          have f1 : w2.frozen? ⟨w.heap.size + 1, 1, none⟩ = false := hd.fr 1
          have r2 : w2.cell? ⟨w.heap.size + 1, 2, none⟩ = some (.int .i64 0) := hd.cr 2
          have f2 : w2.frozen? ⟨w.heap.size + 1, 2, none⟩ = false := hd.fr 2
          have r3 : w2.cell? ⟨w.heap.size + 1, 3, none⟩ = some (.int .i64 0) := hd.cr 3
          have f3 : w2.frozen? ⟨w.heap.size + 1, 3, none⟩ = false := hd.fr 3
          have r4 : w2.cell? ⟨w.heap.size + 1, 4, none⟩ = some (.int .i64 0) := hd.cr 4
          have f4 : w2.frozen? ⟨w.heap.size + 1, 4, none⟩ = false := hd.fr 4
          have r5 : w2.cell? ⟨w.heap.size + 1, 5, none⟩ = some (.int .i64 0) := hd.cr 5
          have f5 : w2.frozen? ⟨w.heap.size + 1, 5, none⟩ = false := hd.fr 5
          have r6 : w2.cell? ⟨w.heap.size + 1, 6, none⟩ = some (.int .i64 0) := hd.cr 6
          have f6 : w2.frozen? ⟨w.heap.size + 1, 6, none⟩ = false := hd.fr 6
          have r7 : w2.cell? ⟨w.heap.size + 1, 7, none⟩ = some (.int .i64 0) := hd.cr 7
          have f7 : w2.frozen? ⟨w.heap.size + 1, 7, none⟩ = false := hd.fr 7
          have HNZ := Lib.hid hz
          have HB := Lib.hid hb
          clear hz hd hb
          go_wp2
          refine bodyPost_ret (ret_info rfl rfl (heap_set8 HD2.out.r)) rfl ?_
          refine downPost_err (k := 0) ?_ HNZ.out (below_set8 HD2.out.below (by omega))
          rw [HG.out, HQ.out, HN.out]
          unfold downT
          rw [HDI.out.at_]
          dsimp only
          rw [if_pos (by rw [← HR2.out]; exact HNZ.out), HR2.out]
      · obtain rfl : j = l.length := by omega
        clear hlt hj
        have r0 : wr.cell? ⟨w.heap.size + 1, 0, none⟩ = some (.int .i64 0) := hd.cr 0
        have f0 : wr.frozen? ⟨w.heap.size + 1, 0, none⟩ = false := hd.fr 0
        have r1 : wr.cell? ⟨w.heap.size + 1, 1, none⟩ = some (.int .i64 0) := hd.cr 1
        have f1 : wr.frozen? ⟨w.heap.size + 1, 1, none⟩ = false := hd.fr 1
        have r2 : wr.cell? ⟨w.heap.size + 1, 2, none⟩ = some (.int .i64 0) := hd.cr 2
        have f2 : wr.frozen? ⟨w.heap.size + 1, 2, none⟩ = false := hd.fr 2
        have r3 : wr.cell? ⟨w.heap.size + 1, 3, none⟩ = some (.int .i64 0) := hd.cr 3
        have f3 : wr.frozen? ⟨w.heap.size + 1, 3, none⟩ = false := hd.fr 3
        have r4 : wr.cell? ⟨w.heap.size + 1, 4, none⟩ = some (.int .i64 0) := hd.cr 4
        have f4 : wr.frozen? ⟨w.heap.size + 1, 4, none⟩ = false := hd.fr 4
        have r5 : wr.cell? ⟨w.heap.size + 1, 5, none⟩ = some (.int .i64 0) := hd.cr 5
        have f5 : wr.frozen? ⟨w.heap.size + 1, 5, none⟩ = false := hd.fr 5
        have r6 : wr.cell? ⟨w.heap.size + 1, 6, none⟩ = some (.int .i64 0) := hd.cr 6
        have f6 : wr.frozen? ⟨w.heap.size + 1, 6, none⟩ = false := hd.fr 6
        have r7 : wr.cell? ⟨w.heap.size + 1, 7, none⟩ = some (.int .i64 0) := hd.cr 7
        have f7 : wr.frozen? ⟨w.heap.size + 1, 7, none⟩ = false := hd.fr 7
        clear hd heq
        go_wp2
        refine bodyPost_ret (ret_info rfl rfl (heap_set8 HDI.out.r)) rfl ?_
        refine downPost_ok (k := k) ?_ (stat_eq HDI.out.at_) (below_set8 HDI.out.below (by omega))
        rw [HG.out, HQ.out, List.drop_length]; rfl
set_option maxRecDepth 100000 in
set_option maxHeartbeats 4000000 in
theorem wdown_cwd {w : World} {t : Nat} {S : Tab} {T : IT.Tr} (h : Tre w t S T) (cwd : Int) (c : Cr) (a : Option Addr) (cap : Nat) (l : List ByteArray) (hrow : Row w a l) (hl : l.length ≤ maxLen) :
    Calls Try.prog 75 #[ask t cwd c, .bool false, .slice a l.length cap] w (DownPost T c cwd false l w) := by
  have HR := Lib.hid hrow
  have H := Lib.hid h
  unfold maxLen at hl
  have h2t := h.mv ((Mv.refl h.rep).alloc (.cells (askC t cwd c) 74))
  have h3t := h2t.mv ((Mv.refl h2t.rep).alloc (.cells zeroC 35))
  have h3 := stat_any h3t cwd
  have hzr : ((w.alloc (.cells (askC t cwd c) 74)).alloc (.cells zeroC 35)).heap[w.heap.size + 1]? = some (.cells zeroC 35 (0, 0)) := by
    have := alloc_heap (w.alloc (Obj.cells (askC t cwd c) 74)) (Obj.cells zeroC 35)
    rw [alloc_size] at this
    exact this
  have hza : ((w.alloc (.cells (askC t cwd c) 74)).alloc (.cells zeroC 35)).heap[w.heap.size]? = some (.cells (askC t cwd c) 74 (0, 0)) := by
    rw [alloc_heap_old _ _ (by rw [alloc_size]; omega), alloc_heap]
  have hzb : Below w.heap.size w ((w.alloc (.cells (askC t cwd c) 74)).alloc (.cells zeroC 35)) := ((Below.refl _ _).alloc (Nat.le_refl _) _).alloc (by rw [alloc_size]; omega) _
  have hzs : ((w.alloc (.cells (askC t cwd c) 74)).alloc (.cells zeroC 35)).heap.size = w.heap.size + 1 + 1 := by rw [alloc_size, alloc_size]
  have HZ := Lib.hid (And.intro hzr (And.intro hza (And.intro hzb hzs)))
  clear h hrow h2t h3t hzr hza hzb hzs
  cases hT : T (startT cwd false) with
  | none =>
    have HG : Hid (goT T c cwd false (l.map bs) = (0, 3)) := Lib.hid (by unfold goT; rw [if_pos hT])
    have HC : Hid (Calls Try.prog 14 #[.pointer (some ⟨t, 0, none⟩), .int .i64 cwd] ((w.alloc (.cells (askC t cwd c) 74)).alloc (.cells zeroC 35)) fun e w' => e = .returned (.tuple #[.agg #[.int .i64 0, .int .i64 0, .int .i64 0, .int .i64 0, .int .i64 0, .int .i64 0, .int .i64 0, .int .i64 0], .bool false]) ∧ Below ((w.alloc (.cells (askC t cwd c) 74)).alloc (.cells zeroC 35)).heap.size ((w.alloc (.cells (askC t cwd c) 74)).alloc (.cells zeroC 35)) w') := Lib.hid (h3.mono (by
      rintro e w' ⟨rfl, hb⟩
      have hT' : T cwd.toNat = none := hT
      refine ⟨by unfold statV; rw [hT']; rfl, hb⟩))
    clear h3 hT
    unfold ask
    go_enter Try.func75, Try.ntmps75
    go_wp2_with fail
    refine HC.out.mono ?_
    rintro e w1 ⟨rfl, hb⟩
    have HB := Lib.hid hb
    have hs : w.heap.size + 1 + 1 ≤ w1.heap.size := by have := hb.size; rwa [HZ.out.2.2.2] at this
    have hr : w1.heap[w.heap.size + 1]? = some (.cells zeroC 35 (0, 0)) := by
      rw [hb.block _ (by rw [HZ.out.2.2.2]; omega)]; exact HZ.out.1
    have r0 : w1.cell? ⟨w.heap.size + 1, 0, none⟩ = some (.int .i64 0) := cell_of hr 0
    have f0 : w1.frozen? ⟨w.heap.size + 1, 0, none⟩ = false := frozen_of hr 0
    have r1 : w1.cell? ⟨w.heap.size + 1, 1, none⟩ = some (.int .i64 0) := cell_of hr 1
    have f1 : w1.frozen? ⟨w.heap.size + 1, 1, none⟩ = false := frozen_of hr 1
    have r2 : w1.cell? ⟨w.heap.size + 1, 2, none⟩ = some (.int .i64 0) := cell_of hr 2
    have f2 : w1.frozen? ⟨w.heap.size + 1, 2, none⟩ = false := frozen_of hr 2
    have r3 : w1.cell? ⟨w.heap.size + 1, 3, none⟩ = some (.int .i64 0) := cell_of hr 3
    have f3 : w1.frozen? ⟨w.heap.size + 1, 3, none⟩ = false := frozen_of hr 3
    have r4 : w1.cell? ⟨w.heap.size + 1, 4, none⟩ = some (.int .i64 0) := cell_of hr 4
    have f4 : w1.frozen? ⟨w.heap.size + 1, 4, none⟩ = false := frozen_of hr 4
    have r5 : w1.cell? ⟨w.heap.size + 1, 5, none⟩ = some (.int .i64 0) := cell_of hr 5
    have f5 : w1.frozen? ⟨w.heap.size + 1, 5, none⟩ = false := frozen_of hr 5
    have r6 : w1.cell? ⟨w.heap.size + 1, 6, none⟩ = some (.int .i64 0) := cell_of hr 6
    have f6 : w1.frozen? ⟨w.heap.size + 1, 6, none⟩ = false := frozen_of hr 6
    have r7 : w1.cell? ⟨w.heap.size + 1, 7, none⟩ = some (.int .i64 0) := cell_of hr 7
    have f7 : w1.frozen? ⟨w.heap.size + 1, 7, none⟩ = false := frozen_of hr 7
    have hs1 : w.heap.size + 1 < w1.heap.size := by omega
    have hs2 : w.heap.size < w1.heap.size := by omega
    have HRR := Lib.hid hr
    clear hb hr hs
    go_wp2
    refine bodyPost_ret (ret_info rfl rfl ((alloc_heap_old _ _ (by simpa [World.setCell] using hs1)).trans (heap_set8 HRR.out))) rfl ?_
    exact downPost_err HG.out (by decide) (belowA (below_set8 (HZ.out.2.2.1.trans (HB.out.mono (by rw [HZ.out.2.2.2]; omega))) (by omega)) _)
  | some m0 =>
    have HC : Hid (Calls Try.prog 14 #[.pointer (some ⟨t, 0, none⟩), .int .i64 cwd] ((w.alloc (.cells (askC t cwd c) 74)).alloc (.cells zeroC 35)) fun e w' => e = .returned (.tuple #[.agg (infC T (startT cwd false) m0), .bool true]) ∧ Below ((w.alloc (.cells (askC t cwd c) 74)).alloc (.cells zeroC 35)).heap.size ((w.alloc (.cells (askC t cwd c) 74)).alloc (.cells zeroC 35)) w') := Lib.hid (h3.mono (by
      rintro e w' ⟨rfl, hb⟩
      have hT' : T cwd.toNat = some m0 := hT
      refine ⟨by unfold statV; rw [hT']; rfl, hb⟩))
    have HG : Hid (goT T c cwd false (l.map bs) = downT T c (startT cwd false) (l.map bs)) := Lib.hid (by unfold goT; rw [if_neg (by rw [hT]; intro e; cases e)])
    have HT := Lib.hid hT
    obtain ⟨k0, hk0⟩ : ∃ k0, k0 = startT cwd false := ⟨_, rfl⟩
    rw [← hk0] at HC HG HT
    clear h3 hT hk0
    unfold infC at HC
    unfold ask
    go_enter Try.func75, Try.ntmps75
    go_wp2_with fail
    refine HC.out.mono ?_
    rintro e w1 ⟨rfl, hb⟩
    have HD : Hid (DI w t cwd c T w.heap.size (w.heap.size + 1) w1.heap.size k0 m0 (w1.alloc (.cells (infC T k0 m0) 35))) := Lib.hid (by
      have hs := hb.size
      rw [HZ.out.2.2.2] at hs
      refine ⟨(HZ.out.2.2.1.trans (hb.mono (by rw [HZ.out.2.2.2]; omega))).alloc (by omega) _, ?_, ?_, alloc_heap _ _, HT.out⟩
      · rw [alloc_heap_old _ _ (by omega), hb.block _ (by rw [HZ.out.2.2.2]; omega)]; exact HZ.out.2.1
      · rw [alloc_heap_old _ _ (by omega), hb.block _ (by rw [HZ.out.2.2.2]; omega)]; exact HZ.out.1)
    have HS1 : Hid (w.heap.size + 1 < w1.heap.size) := Lib.hid (by have hs := hb.size; rw [HZ.out.2.2.2] at hs; omega)
    have HSz : Hid (w1.heap.size < (w1.alloc (.cells (infC T k0 m0) 35)).heap.size) := Lib.hid (by rw [alloc_size]; omega)
    clear hb HC
    go_wp2_with fail
    go_loopw [31] (fun iv wr => ∃ (j k : Nat) (m : IT.Nd), iv = .int .i64 j ∧ j ≤ l.length ∧ DI w t cwd c T w.heap.size (w.heap.size + 1) w1.heap.size k m wr ∧ downT T c k0 (l.map bs) = downT T c k ((l.drop j).map bs)) (fun iv _ => l.length - (intOf iv).toNat)
    case atStart => exact ⟨0, k0, m0, rfl, Nat.zero_le _, HD.out, rfl⟩
    case round =>
      clear HD
      obtain ⟨j, k, m, rfl, hj, hd, heq⟩ := hrel
      have HDI := Lib.hid hd
      have HQ := Lib.hid heq
      have a0 : wr.cell? ⟨w.heap.size, 0, none⟩ = some (.pointer (some ⟨t, 0, none⟩)) := hd.ca 0
      have a1 : wr.cell? ⟨w.heap.size, 1, none⟩ = some (.int .i64 cwd) := hd.ca 1
      have a2 : wr.cell? ⟨w.heap.size, 2, none⟩ = some (.int .i64 c.real) := hd.ca 2
      have a3 : wr.cell? ⟨w.heap.size, 3, none⟩ = some (.int .i64 c.eff) := hd.ca 3
      have a4 : wr.cell? ⟨w.heap.size, 4, none⟩ = some (.int .i64 c.saved) := hd.ca 4
      have a5 : wr.cell? ⟨w.heap.size, 5, none⟩ = some (.int .i64 c.group) := hd.ca 5
      have a6 : wr.cell? ⟨w.heap.size, 6, none⟩ = some (.int .i64 c.eg) := hd.ca 6
      have x0 : wr.cell? ⟨w1.heap.size, 0, none⟩ = some (.int .i64 (k : Int)) := hd.cx 0
      have x1 : wr.cell? ⟨w1.heap.size, 1, none⟩ = some (.int .i64 m.kind) := hd.cx 1
      have x2 : wr.cell? ⟨w1.heap.size, 2, none⟩ = some (.int .i64 m.mode) := hd.cx 2
      have x3 : wr.cell? ⟨w1.heap.size, 3, none⟩ = some (.int .i64 m.owner) := hd.cx 3
      have x4 : wr.cell? ⟨w1.heap.size, 4, none⟩ = some (.int .i64 m.group) := hd.cx 4
      have x5 : wr.cell? ⟨w1.heap.size, 5, none⟩ = some (.int .i64 (IT.lnk T k : Nat)) := hd.cx 5
      have x6 : wr.cell? ⟨w1.heap.size, 6, none⟩ = some (.int .i64 (m.data.length + m.names.length : Nat)) := hd.cx 6
      have x7 : wr.cell? ⟨w1.heap.size, 7, none⟩ = some (.int .i64 m.tty) := hd.cx 7
      by_cases hlt : j < l.length
      · obtain ⟨nb, no, rfl, hnb, hnc⟩ := HR.out j hlt
        have hn : wr.cell? ⟨nb, no + j, none⟩ = some (.string l[j]) := by rw [hd.below.cell (p := ⟨nb, no + j, none⟩) hnb]; exact hnc
        have hlt1 : (j : Int) < l.length := by omega
        have HN := Lib.hid (drop_map hlt)
        have HTre := Lib.hid (H.out.mv ((Mv.refl H.out.rep).below hd.below))
        clear hd heq hnc
        generalize hnm : l[j] = nm at *
        clear hnm
        go_wp2_with fail
        refine (wenters_any t cwd c _ _ _ _ _ _ _ _ _).mono ?_
        rintro e w2 ⟨r, rfl, hr, hb⟩
        have HD2 := Lib.hid (HDI.out.turn hb)
        have hd := HD2.out
        have HR2 : Hid (r = entersE m c) := Lib.hid hr
        clear hr a0 a1 a2 a3 a4 a5 a6 x0 x1 x2 x3 x4 x5 x6 x7 hn
        by_cases hz : r = 0
        · obtain rfl : r = 0 := hz
          have a0 : w2.cell? ⟨w.heap.size, 0, none⟩ = some (.pointer (some ⟨t, 0, none⟩)) := hd.ca 0
          have x0 : w2.cell? ⟨w1.heap.size, 0, none⟩ = some (.int .i64 (k : Int)) := hd.cx 0
          have HT2 := Lib.hid (HTre.out.mv ((Mv.refl HTre.out.rep).below hb))
          have HE0 := Lib.hid (down_step (T := T) (c := c) (n := bs nm) HDI.out.at_ HR2.out.symm)
          cases hlk : lookT T k (bs nm) with
          | none =>
            have r0 : w2.cell? ⟨w.heap.size + 1, 0, none⟩ = some (.int .i64 0) := hd.cr 0
            have f0 : w2.frozen? ⟨w.heap.size + 1, 0, none⟩ = false := hd.fr 0
            have r1 : w2.cell? ⟨w.heap.size + 1, 1, none⟩ = some (.int .i64 0) := hd.cr 1
            have f1 : w2.frozen? ⟨w.heap.size + 1, 1, none⟩ = false := hd.fr 1
            have r2 : w2.cell? ⟨w.heap.size + 1, 2, none⟩ = some (.int .i64 0) := hd.cr 2
            have f2 : w2.frozen? ⟨w.heap.size + 1, 2, none⟩ = false := hd.fr 2
            have r3 : w2.cell? ⟨w.heap.size + 1, 3, none⟩ = some (.int .i64 0) := hd.cr 3
            have f3 : w2.frozen? ⟨w.heap.size + 1, 3, none⟩ = false := hd.fr 3
            have r4 : w2.cell? ⟨w.heap.size + 1, 4, none⟩ = some (.int .i64 0) := hd.cr 4
            have f4 : w2.frozen? ⟨w.heap.size + 1, 4, none⟩ = false := hd.fr 4
            have r5 : w2.cell? ⟨w.heap.size + 1, 5, none⟩ = some (.int .i64 0) := hd.cr 5
            have f5 : w2.frozen? ⟨w.heap.size + 1, 5, none⟩ = false := hd.fr 5
            have r6 : w2.cell? ⟨w.heap.size + 1, 6, none⟩ = some (.int .i64 0) := hd.cr 6
            have f6 : w2.frozen? ⟨w.heap.size + 1, 6, none⟩ = false := hd.fr 6
            have r7 : w2.cell? ⟨w.heap.size + 1, 7, none⟩ = some (.int .i64 0) := hd.cr 7
            have f7 : w2.frozen? ⟨w.heap.size + 1, 7, none⟩ = false := hd.fr 7
            have HC : Hid (Calls Try.prog 26 #[.pointer (some ⟨t, 0, none⟩), .int .i64 (k : Int), .string nm] w2 fun e w' => e = .returned (.tuple #[.int .i64 0, .bool false]) ∧ w2 = w') := Lib.hid ((look_any HT2.out k nm).mono (by
              rintro e w' ⟨rfl, hw⟩
              exact ⟨by rw [show lookT T (k : Int).toNat (bs nm) = none from hlk]; rfl, hw⟩))
            have HLK := Lib.hid hlk
            clear hd hb hlk
            go_wp2_with fail
            refine HC.out.mono ?_
            rintro e wl ⟨rfl, rfl⟩
            go_wp2
            refine bodyPost_ret (ret_info rfl rfl (heap_set8 HD2.out.r)) rfl ?_
            refine downPost_err (k := 0) ?_ (by decide) (below_set8 HD2.out.below (by omega))
            rw [HG.out, HQ.out, HN.out, HE0.out, HLK.out]
          | some j2 =>
            obtain ⟨m2, hm2⟩ := look_there HTre.out.snd hlk
            have HM2 := Lib.hid hm2
            have HC : Hid (Calls Try.prog 26 #[.pointer (some ⟨t, 0, none⟩), .int .i64 (k : Int), .string nm] w2 fun e w' => e = .returned (.tuple #[.int .i64 (j2 : Int), .bool true]) ∧ w2 = w') := Lib.hid ((look_any HT2.out k nm).mono (by
              rintro e w' ⟨rfl, hw⟩
              exact ⟨by rw [show lookT T (k : Int).toNat (bs nm) = some j2 from hlk]; rfl, hw⟩))
            have HC2 : Hid (Calls Try.prog 14 #[.pointer (some ⟨t, 0, none⟩), .int .i64 (j2 : Int)] w2 fun e w' => e = .returned (.tuple #[.agg (infC T j2 m2), .bool true]) ∧ Below w2.heap.size w2 w') := Lib.hid ((stat_any HT2.out j2).mono (by
              rintro e w' ⟨rfl, hbb⟩
              have hT' : T (j2 : Int).toNat = some m2 := hm2
              refine ⟨by unfold statV; rw [hT']; rfl, hbb⟩))
            have HLK := Lib.hid hlk
            clear hd hb hlk hm2
            unfold infC at HC2
            go_wp2_with fail
            refine HC.out.mono ?_
            rintro e wl ⟨rfl, rfl⟩
            go_wp2_with fail
            refine HC2.out.mono ?_
            rintro e w3 ⟨rfl, hb⟩
            have HD3 := Lib.hid (HD2.out.turn hb)
            have hd := HD3.out
            have x0 : w3.cell? ⟨w1.heap.size, 0, none⟩ = some (.int .i64 (k : Int)) := hd.cx 0
            have x1 : w3.cell? ⟨w1.heap.size, 1, none⟩ = some (.int .i64 m.kind) := hd.cx 1
            have x2 : w3.cell? ⟨w1.heap.size, 2, none⟩ = some (.int .i64 m.mode) := hd.cx 2
            have x3 : w3.cell? ⟨w1.heap.size, 3, none⟩ = some (.int .i64 m.owner) := hd.cx 3
            have x4 : w3.cell? ⟨w1.heap.size, 4, none⟩ = some (.int .i64 m.group) := hd.cx 4
            have x5 : w3.cell? ⟨w1.heap.size, 5, none⟩ = some (.int .i64 (IT.lnk T k : Nat)) := hd.cx 5
            have x6 : w3.cell? ⟨w1.heap.size, 6, none⟩ = some (.int .i64 (m.data.length + m.names.length : Nat)) := hd.cx 6
            have x7 : w3.cell? ⟨w1.heap.size, 7, none⟩ = some (.int .i64 m.tty) := hd.cx 7
            have y0 : w3.frozen? ⟨w1.heap.size, 0, none⟩ = false := hd.fx 0
            have y1 : w3.frozen? ⟨w1.heap.size, 1, none⟩ = false := hd.fx 1
            have y2 : w3.frozen? ⟨w1.heap.size, 2, none⟩ = false := hd.fx 2
            have y3 : w3.frozen? ⟨w1.heap.size, 3, none⟩ = false := hd.fx 3
            have y4 : w3.frozen? ⟨w1.heap.size, 4, none⟩ = false := hd.fx 4
            have y5 : w3.frozen? ⟨w1.heap.size, 5, none⟩ = false := hd.fx 5
            have y6 : w3.frozen? ⟨w1.heap.size, 6, none⟩ = false := hd.fx 6
            have y7 : w3.frozen? ⟨w1.heap.size, 7, none⟩ = false := hd.fx 7
            clear hd hb
            go_wp2
            go_roundw
            case rel => exact ⟨j + 1, j2, m2, by go_num, by omega, HD3.out.store HM2.out (by have := HS1.out; omega) (by have := HS1.out; omega) (by have := HS1.out; omega), by rw [HQ.out, HN.out, HE0.out, HLK.out]⟩
            case measure => simp [intOf]; omega
        · have hz1 : (r != 0) = true := by simpa using hz
          have r0 : w2.cell? ⟨w.heap.size + 1, 0, none⟩ = some (.int .i64 0) := hd.cr 0
          have f0 : w2.frozen? ⟨w.heap.size + 1, 0, none⟩ = false := hd.fr 0
          have r1 : w2.cell? ⟨w.heap.size + 1, 1, none⟩ = some (.int .i64 0) := hd.cr 1
          have f1 : w2.frozen? ⟨w.heap.size + 1, 1, none⟩ = false := hd.fr 1
          have r2 : w2.cell? ⟨w.heap.size + 1, 2, none⟩ = some (.int .i64 0) := hd.cr 2
          have f2 : w2.frozen? ⟨w.heap.size + 1, 2, none⟩ = false := hd.fr 2
          have r3 : w2.cell? ⟨w.heap.size + 1, 3, none⟩ = some (.int .i64 0) := hd.cr 3
          have f3 : w2.frozen? ⟨w.heap.size + 1, 3, none⟩ = false := hd.fr 3
          have r4 : w2.cell? ⟨w.heap.size + 1, 4, none⟩ = some (.int .i64 0) := hd.cr 4
          have f4 : w2.frozen? ⟨w.heap.size + 1, 4, none⟩ = false := hd.fr 4
          have r5 : w2.cell? ⟨w.heap.size + 1, 5, none⟩ = some (.int .i64 0) := hd.cr 5
          have f5 : w2.frozen? ⟨w.heap.size + 1, 5, none⟩ = false := hd.fr 5
          have r6 : w2.cell? ⟨w.heap.size + 1, 6, none⟩ = some (.int .i64 0) := hd.cr 6
          have f6 : w2.frozen? ⟨w.heap.size + 1, 6, none⟩ = false := hd.fr 6
          have r7 : w2.cell? ⟨w.heap.size + 1, 7, none⟩ = some (.int .i64 0) := hd.cr 7
          have f7 : w2.frozen? ⟨w.heap.size + 1, 7, none⟩ = false := hd.fr 7
          have HNZ := Lib.hid hz
          have HB := Lib.hid hb
          clear hz hd hb
          go_wp2
          refine bodyPost_ret (ret_info rfl rfl (heap_set8 HD2.out.r)) rfl ?_
          refine downPost_err (k := 0) ?_ HNZ.out (below_set8 HD2.out.below (by omega))
          rw [HG.out, HQ.out, HN.out]
          unfold downT
          rw [HDI.out.at_]
          dsimp only
          rw [if_pos (by rw [← HR2.out]; exact HNZ.out), HR2.out]
      · obtain rfl : j = l.length := by omega
        clear hlt hj
        have r0 : wr.cell? ⟨w.heap.size + 1, 0, none⟩ = some (.int .i64 0) := hd.cr 0
        have f0 : wr.frozen? ⟨w.heap.size + 1, 0, none⟩ = false := hd.fr 0
        have r1 : wr.cell? ⟨w.heap.size + 1, 1, none⟩ = some (.int .i64 0) := hd.cr 1
        have f1 : wr.frozen? ⟨w.heap.size + 1, 1, none⟩ = false := hd.fr 1
        have r2 : wr.cell? ⟨w.heap.size + 1, 2, none⟩ = some (.int .i64 0) := hd.cr 2
        have f2 : wr.frozen? ⟨w.heap.size + 1, 2, none⟩ = false := hd.fr 2
        have r3 : wr.cell? ⟨w.heap.size + 1, 3, none⟩ = some (.int .i64 0) := hd.cr 3
        have f3 : wr.frozen? ⟨w.heap.size + 1, 3, none⟩ = false := hd.fr 3
        have r4 : wr.cell? ⟨w.heap.size + 1, 4, none⟩ = some (.int .i64 0) := hd.cr 4
        have f4 : wr.frozen? ⟨w.heap.size + 1, 4, none⟩ = false := hd.fr 4
        have r5 : wr.cell? ⟨w.heap.size + 1, 5, none⟩ = some (.int .i64 0) := hd.cr 5
        have f5 : wr.frozen? ⟨w.heap.size + 1, 5, none⟩ = false := hd.fr 5
        have r6 : wr.cell? ⟨w.heap.size + 1, 6, none⟩ = some (.int .i64 0) := hd.cr 6
        have f6 : wr.frozen? ⟨w.heap.size + 1, 6, none⟩ = false := hd.fr 6
        have r7 : wr.cell? ⟨w.heap.size + 1, 7, none⟩ = some (.int .i64 0) := hd.cr 7
        have f7 : wr.frozen? ⟨w.heap.size + 1, 7, none⟩ = false := hd.fr 7
        clear hd heq
        go_wp2
        refine bodyPost_ret (ret_info rfl rfl (heap_set8 HDI.out.r)) rfl ?_
        refine downPost_ok (k := k) ?_ (stat_eq HDI.out.at_) (below_set8 HDI.out.below (by omega))
        rw [HG.out, HQ.out, List.drop_length]; rfl
theorem wdown_any {w : World} {t : Nat} {S : Tab} {T : IT.Tr} (h : Tre w t S T) (cwd : Int) (c : Cr) (abs : Bool) (a : Option Addr) (cap : Nat) (l : List ByteArray) (hrow : Row w a l) (hl : l.length ≤ maxLen) :
    Calls Try.prog 75 #[ask t cwd c, .bool abs, .slice a l.length cap] w (DownPost T c cwd abs l w) := by
  cases abs with
  | true => exact wdown_root h cwd c a cap l hrow hl
  | false => exact wdown_cwd h cwd c a cap l hrow hl
end Go.Proofs.Ytafonmnfeibaiaa
namespace Go.Proofs.Ytafonmnfeibaiaa
open Go.RowKit

theorem row_of_owns {W : World} {base : Nat} {v : Value} {l : List ByteArray} (h : W.ownsRow base 9 1 v l.length (l.map .string)) : ∃ a cap, v = .slice a l.length cap ∧ Row W a l ∧ l.length ≤ maxLen ∧ (∀ b o s, a = some ⟨b, o, s⟩ → base ≤ b) := by
  obtain ⟨_, ⟨rfl, h0⟩ | ⟨g, cap, cur, rfl, hb, hg, hc1, hc2, hc3, hc4⟩⟩ := h
  · refine ⟨none, 0, by rw [h0], fun j hj => by omega, by rw [h0]; exact Nat.zero_le _, fun b o s e => by cases e⟩
  · refine ⟨some ⟨g, 0, none⟩, cap, rfl, fun j hj => ⟨g, 0, rfl, lt_of_heap hg, ?_⟩, by omega, fun b o s e => by cases e; exact hb⟩
    rw [cell_of hg, Nat.zero_add]
    have h1 : (cur.toList.take (l.length * 1))[j]? = (l.map Value.string)[j]? := by rw [hc4]
    rw [List.getElem?_take, if_pos (by omega), List.getElem?_map, List.getElem?_eq_getElem hj] at h1
    rw [← Array.getElem?_toList]; exact h1
theorem Row.below {w w' : World} {a : Option Addr} {l : List ByteArray} (h : Row w a l) (hb : Below w.heap.size w w') : Row w' a l := fun j hj => by
  obtain ⟨b, off, e, hlt, hc⟩ := h j hj
  exact ⟨b, off, e, Nat.lt_of_lt_of_le hlt hb.size, by rw [hb.cell (p := ⟨b, off + j, none⟩) hlt]; exact hc⟩
def FindPost (T : IT.Tr) (c : Cr) (cwd : Int) (s : ByteArray) (w : World) (e : Ending) (w' : World) : Prop :=
  ∃ v : Value, e = .returned (.tuple #[v, .int .i64 (findT T c cwd (bs s)).2]) ∧ v = (if (findT T c cwd (bs s)).2 = 0 then statV T (findT T c cwd (bs s)).1 else noInfo) ∧ Below w.heap.size w w'
theorem findPost_err {T : IT.Tr} {c : Cr} {cwd : Int} {s : ByteArray} {w w' : World} {k : Nat} {r : Int} (h : findT T c cwd (bs s) = (k, r)) (hr : r ≠ 0) (hb : Below w.heap.size w w') : FindPost T c cwd s w (.returned (.tuple #[noInfo, .int .i64 r])) w' := by
  unfold FindPost
  rw [h]
  exact ⟨_, rfl, by rw [if_neg hr], hb⟩
theorem findPost_ok {T : IT.Tr} {c : Cr} {cwd : Int} {s : ByteArray} {w w' : World} {k : Nat} {v : Value} (h : findT T c cwd (bs s) = (k, 0)) (hv : v = statV T k) (hb : Below w.heap.size w w') : FindPost T c cwd s w (.returned (.tuple #[v, .int .i64 0])) w' := by
  unfold FindPost
  rw [h]
  exact ⟨_, rfl, by rw [if_pos rfl]; exact hv, hb⟩
theorem split_of {s : ByteArray} {abs dir : Bool} {l : List ByteArray} {err : Int} (h : Pp.splitS s.data.toList = (abs, dir, l.map (fun x : ByteArray => x.data.toList), err)) : Pp.splitS (bs s) = (abs, dir, l.map bs, err) := h
/-- Two blocks of the beginning, behind more. -/
theorem two_blocks {w w1 : World} {A B : Array Value} {TA TB : TypeId} (hb : Below (w.heap.size + 1 + 1) ((w.alloc (.cells A TA)).alloc (.cells B TB)) w1) : w1.heap[w.heap.size]? = some (.cells A TA (0, 0)) ∧ w1.heap[w.heap.size + 1]? = some (.cells B TB (0, 0)) ∧ w.heap.size + 1 < w1.heap.size ∧ Below w.heap.size w w1 := by
  have hs := hb.size
  rw [alloc_size, alloc_size] at hs
  refine ⟨?_, ?_, by omega, (((Below.refl _ _).alloc (Nat.le_refl _) _).alloc (by rw [alloc_size]; omega) _).trans (hb.mono (by omega))⟩
  · rw [hb.block _ (by omega), alloc_heap_old _ _ (by rw [alloc_size]; omega), alloc_heap]
  · have := alloc_heap (w.alloc (Obj.cells A TA)) (Obj.cells B TB)
    rw [alloc_size] at this
    rw [hb.block _ (by omega)]; exact this
set_option maxRecDepth 100000 in
set_option maxHeartbeats 4000000 in
theorem wfind_any {w : World} {t : Nat} {S : Tab} {T : IT.Tr} (h : Tre w t S T) (cwd : Int) (c : Cr) (s : ByteArray) :
    Calls Try.prog 40 #[ask t cwd c, .string s] w (FindPost T c cwd s w) := by
  have H := Lib.hid h
  clear h
  have HF := Lib.hid (rfl : findT T c cwd (bs s) = findT T c cwd (bs s))
  unfold ask
  go_enter Try.func40, Try.ntmps40
  go_wp2_with fail
  refine (Pp.split_any s _).mono ?_
  rintro e w1 ⟨abs, dir, v, l, err, rfl, hown, hb, hsp⟩
  obtain ⟨a, cap, rfl, hrow, hlen, _⟩ := row_of_owns hown
  have HSP := Lib.hid (split_of hsp)
  rw [alloc_size, alloc_size] at hb
  obtain ⟨b0, b1, hlt, hbb⟩ := two_blocks hb
  have HROW := Lib.hid hrow
  have HLEN := Lib.hid hlen
  have HBB := Lib.hid hbb
  have HLT := Lib.hid hlt
  have HB0 := Lib.hid b0
  have HB1 := Lib.hid b1
  by_cases he : err = 0
  · subst he
    have HX := Lib.hid (rfl : goT T c cwd abs (l.map bs) = goT T c cwd abs (l.map bs))
    have ho : w1.heap[w.heap.size]? = some (.cells (askC t cwd c) 74 (0, 0)) := b0
    have a0 : w1.cell? ⟨w.heap.size, 0, none⟩ = some (.pointer (some ⟨t, 0, none⟩)) := cell_of ho 0
    have a1 : w1.cell? ⟨w.heap.size, 1, none⟩ = some (.int .i64 cwd) := cell_of ho 1
    have a2 : w1.cell? ⟨w.heap.size, 2, none⟩ = some (.int .i64 c.real) := cell_of ho 2
    have a3 : w1.cell? ⟨w.heap.size, 3, none⟩ = some (.int .i64 c.eff) := cell_of ho 3
    have a4 : w1.cell? ⟨w.heap.size, 4, none⟩ = some (.int .i64 c.saved) := cell_of ho 4
    have a5 : w1.cell? ⟨w.heap.size, 5, none⟩ = some (.int .i64 c.group) := cell_of ho 5
    have a6 : w1.cell? ⟨w.heap.size, 6, none⟩ = some (.int .i64 c.eg) := cell_of ho 6
    have hlt2 : w.heap.size < w1.heap.size := by omega
    clear hown hb hsp b0 b1 hbb hrow hlen ho
    go_wp2_with fail
    have hbp := belowA HBB.out (.cells #[.bool abs, .slice a l.length cap, .bool dir] 115)
    refine (wdown_any (H.out.mv ((Mv.refl H.out.rep).below hbp)) cwd c abs a cap l (HROW.out.below ((Below.refl _ _).alloc (Nat.le_refl _) _)) HLEN.out).mono ?_
    rintro e w2 ⟨v, rfl, hv, hb2⟩
    have hgo := go_there (c := c) (cwd := cwd) (abs := abs) (l := l.map bs) H.out.snd
    obtain ⟨⟨k, r⟩, hg⟩ : ∃ g, goT T c cwd abs (l.map bs) = g := ⟨_, rfl⟩
    rw [hg] at hv hgo ⊢
    dsimp only at hv hgo
    have HG := Lib.hid hg
    have q0 := (hb2.block _ (by rw [alloc_size]; omega)).trans ((alloc_heap_old _ _ (by omega)).trans HB1.out)
    have qp := (hb2.block _ (by rw [alloc_size]; omega)).trans (alloc_heap w1 (.cells #[.bool abs, .slice a l.length cap, .bool dir] 115))
    have p2 : w2.cell? ⟨w1.heap.size, 2, none⟩ = some (.bool dir) := cell_of qp 2
    have r0 : w2.cell? ⟨w.heap.size + 1, 0, none⟩ = some (.int .i64 0) := cell_of q0 0
    have f0 : w2.frozen? ⟨w.heap.size + 1, 0, none⟩ = false := frozen_of q0 0
    have r1 : w2.cell? ⟨w.heap.size + 1, 1, none⟩ = some (.int .i64 0) := cell_of q0 1
    have f1 : w2.frozen? ⟨w.heap.size + 1, 1, none⟩ = false := frozen_of q0 1
    have r2 : w2.cell? ⟨w.heap.size + 1, 2, none⟩ = some (.int .i64 0) := cell_of q0 2
    have f2 : w2.frozen? ⟨w.heap.size + 1, 2, none⟩ = false := frozen_of q0 2
    have r3 : w2.cell? ⟨w.heap.size + 1, 3, none⟩ = some (.int .i64 0) := cell_of q0 3
    have f3 : w2.frozen? ⟨w.heap.size + 1, 3, none⟩ = false := frozen_of q0 3
    have r4 : w2.cell? ⟨w.heap.size + 1, 4, none⟩ = some (.int .i64 0) := cell_of q0 4
    have f4 : w2.frozen? ⟨w.heap.size + 1, 4, none⟩ = false := frozen_of q0 4
    have r5 : w2.cell? ⟨w.heap.size + 1, 5, none⟩ = some (.int .i64 0) := cell_of q0 5
    have f5 : w2.frozen? ⟨w.heap.size + 1, 5, none⟩ = false := frozen_of q0 5
    have r6 : w2.cell? ⟨w.heap.size + 1, 6, none⟩ = some (.int .i64 0) := cell_of q0 6
    have f6 : w2.frozen? ⟨w.heap.size + 1, 6, none⟩ = false := frozen_of q0 6
    have r7 : w2.cell? ⟨w.heap.size + 1, 7, none⟩ = some (.int .i64 0) := cell_of q0 7
    have f7 : w2.frozen? ⟨w.heap.size + 1, 7, none⟩ = false := frozen_of q0 7
    have HQ0 := Lib.hid q0
    have hlt3 : w1.heap.size < w2.heap.size := by have := hb2.size; rw [alloc_size] at this; omega
    have hlt4 : w.heap.size + 1 < w2.heap.size := by omega
    have hlt5 : w.heap.size < w2.heap.size := by omega
    have HLT4 := Lib.hid hlt4
    have HB2 : Hid (Below w.heap.size w w2) := Lib.hid (hbp.trans (hb2.mono (by rw [alloc_size]; omega)))
    clear hg hb2 hbp q0 qp a0 a1 a2 a3 a4 a5 a6
    by_cases hr : r = 0
    · subst hr
      obtain ⟨m, hm⟩ := hgo rfl
      have hv2 : v = .agg (infC T k m) := by rw [hv, if_pos rfl, ← stat_eq hm]
      unfold infC at hv2
      subst hv2
      have HM := Lib.hid hm
      clear hm hgo hv
      cases dir with
      | false =>
        have HE : Hid (findT T c cwd (bs s) = (k, 0)) := Lib.hid (by
          unfold findT
          rw [HSP.out]
          dsimp only
          rw [if_neg (by decide), HG.out, if_neg (fun hh => hh rfl), if_neg (by simp)])
        go_wp2
        refine bodyPost_ret (ret_info rfl rfl ((alloc_heap_old _ _ (by simpa [World.setCell] using HLT4.out)).trans (heap_set8 HQ0.out))) rfl ?_
        exact findPost_ok HE.out (stat_eq HM.out) (belowA (below_set8 HB2.out (by omega)) _)
      | true =>
        by_cases hk : m.kind = 1
        · have hk1 : (m.kind != 1) = false := by simpa using hk
          have HE : Hid (findT T c cwd (bs s) = (k, 0)) := Lib.hid (by
            unfold findT
            rw [HSP.out]
            dsimp only
            rw [if_neg (by decide), HG.out, if_neg (fun hh => hh rfl), if_neg (by
              rintro ⟨_, h2⟩
              unfold kindT at h2
              rw [HM.out] at h2
              exact h2 hk)])
          clear hk
          go_wp2
          refine bodyPost_ret (ret_info rfl rfl ((alloc_heap_old _ _ (by simpa [World.setCell] using HLT4.out)).trans (heap_set8 HQ0.out))) rfl ?_
          exact findPost_ok HE.out (stat_eq HM.out) (belowA (below_set8 HB2.out (by omega)) _)
        · have hk1 : (m.kind != 1) = true := by simpa using hk
          have HE : Hid (findT T c cwd (bs s) = (0, 6)) := Lib.hid (by
            unfold findT
            rw [HSP.out]
            dsimp only
            rw [if_neg (by decide), HG.out, if_neg (fun hh => hh rfl), if_pos]
            refine ⟨rfl, ?_⟩
            unfold kindT
            rw [HM.out]
            exact hk)
          clear hk
          go_wp2
          refine bodyPost_ret (ret_info rfl rfl ((alloc_heap_old _ _ (by simpa [World.setCell] using HLT4.out)).trans (heap_set8 HQ0.out))) rfl ?_
          exact findPost_err HE.out (by decide) (belowA (below_set8 HB2.out (by omega)) _)
    · have hr1 : (r == 0) = false := by simpa using hr
      have hv2 : v = noInfo := by rw [hv, if_neg hr]
      unfold noInfo at hv2
      subst hv2
      have HE : Hid (findT T c cwd (bs s) = (0, r)) := Lib.hid (by
        unfold findT
        rw [HSP.out]
        dsimp only
        rw [if_neg (by decide), HG.out, if_pos hr])
      have HR := Lib.hid hr
      clear hgo hv hr
      go_wp2
      refine bodyPost_ret (ret_info rfl rfl ((alloc_heap_old _ _ (by simpa [World.setCell] using HLT4.out)).trans (heap_set8 HQ0.out))) rfl ?_
      exact findPost_err HE.out HR.out (belowA (below_set8 HB2.out (by omega)) _)
  · have he1 : (err != 0) = true := by simpa using he
    have r0 : w1.cell? ⟨w.heap.size + 1, 0, none⟩ = some (.int .i64 0) := cell_of b1 0
    have f0 : w1.frozen? ⟨w.heap.size + 1, 0, none⟩ = false := frozen_of b1 0
    have r1 : w1.cell? ⟨w.heap.size + 1, 1, none⟩ = some (.int .i64 0) := cell_of b1 1
    have f1 : w1.frozen? ⟨w.heap.size + 1, 1, none⟩ = false := frozen_of b1 1
    have r2 : w1.cell? ⟨w.heap.size + 1, 2, none⟩ = some (.int .i64 0) := cell_of b1 2
    have f2 : w1.frozen? ⟨w.heap.size + 1, 2, none⟩ = false := frozen_of b1 2
    have r3 : w1.cell? ⟨w.heap.size + 1, 3, none⟩ = some (.int .i64 0) := cell_of b1 3
    have f3 : w1.frozen? ⟨w.heap.size + 1, 3, none⟩ = false := frozen_of b1 3
    have r4 : w1.cell? ⟨w.heap.size + 1, 4, none⟩ = some (.int .i64 0) := cell_of b1 4
    have f4 : w1.frozen? ⟨w.heap.size + 1, 4, none⟩ = false := frozen_of b1 4
    have r5 : w1.cell? ⟨w.heap.size + 1, 5, none⟩ = some (.int .i64 0) := cell_of b1 5
    have f5 : w1.frozen? ⟨w.heap.size + 1, 5, none⟩ = false := frozen_of b1 5
    have r6 : w1.cell? ⟨w.heap.size + 1, 6, none⟩ = some (.int .i64 0) := cell_of b1 6
    have f6 : w1.frozen? ⟨w.heap.size + 1, 6, none⟩ = false := frozen_of b1 6
    have r7 : w1.cell? ⟨w.heap.size + 1, 7, none⟩ = some (.int .i64 0) := cell_of b1 7
    have f7 : w1.frozen? ⟨w.heap.size + 1, 7, none⟩ = false := frozen_of b1 7
    have HE := Lib.hid he
    have hlt2 : w.heap.size < w1.heap.size := by omega
    clear hown hb hsp b0 b1 hbb hrow hlen he
    go_wp2
    refine bodyPost_ret (ret_info rfl rfl ((alloc_heap_old _ _ (by simpa [World.setCell] using HLT.out)).trans (heap_set8 HB1.out))) rfl ?_
    refine findPost_err (k := 0) ?_ HE.out (belowA (below_set8 HBB.out (by omega)) _)
    unfold findT
    rw [HSP.out]
    dsimp only
    rw [if_pos HE.out]
end Go.Proofs.Ytafonmnfeibaiaa
namespace Go.Proofs.Ytafonmnfeibaiaa
open Go.RowKit

/-! A whole block read and written. -/
section
variable {P : Program} {W : World} {R : Nat} {T : TypeId} {f : Nat × Nat} {C C' : Array Value}
theorem heap_setRow_same (h : W.heap[R]? = some (.cells C T f)) : (W.setRow R C').heap[R]? = some (.cells C' T f) := by
  simp [World.setRow, Array.getElem?_modify, h]
theorem heap_setRow_other {b : Nat} (hb : b ≠ R) : (W.setRow R C').heap[b]? = W.heap[b]? := by
  simp only [World.setRow, Array.getElem?_modify]
  rw [if_neg (Ne.symm hb)]
theorem setRow_size : (W.setRow R C').heap.size = W.heap.size := by simp [World.setRow]
theorem below_setRow {n : Nat} {w : World} (h : Below n w W) (hn : n ≤ R) : Below n w (W.setRow R C') :=
  h.trans ⟨rfl, rfl, rfl, by rw [setRow_size]; exact Nat.le_refl _, fun b hb => heap_setRow_other (by omega)⟩
theorem lc_blk (h : W.heap[R]? = some (.cells C T f)) {n : Nat} (hn : C.size = n) : (loadCellsFrom ⟨R, 0, none⟩ 0 n #[]).run P W = .ok C W := by
  subst hn
  have := run_loadCells_list (P := P) W ⟨R, 0, none⟩ C.toList (fun j v hv => by
    have hadd : (⟨R, 0, none⟩ : Addr).add j = ⟨R, j, none⟩ := by unfold Addr.add; split <;> simp_all
    rw [hadd, cell_of h j]
    simpa using hv)
  simpa [loadCells] using this
theorem sc_blk (h : W.heap[R]? = some (.cells C T (0, 0))) (o : Nat) (vs : List Value) (hC' : (C.toList.take o ++ vs ++ C.toList.drop (o + vs.length)).toArray = C') (hle : o + vs.length ≤ C.size) (h1 : ∀ v ∈ vs, v.oneCell' = true) : (storeCells ⟨R, o, none⟩ vs 0).run P W = .ok () (W.setRow R C') := by
  have := run_storeCells_at (P := P) R o T vs 0 C W h (by omega) h1
  rw [Nat.add_zero, hC'] at this
  exact this
theorem ret_blk {fn : Func} {tmps : Array Value} {ty : TypeId} {p u : Tmp} {d : TypeDesc} (hres : fn.results = #[.cell p ty, .tmp u]) (hp : tmps.getD p undef = .pointer (some ⟨R, 0, none⟩))
    (hR : W.heap[R]? = some (.cells C T f)) (hu : P.underlying ty = some d) (hd : (match d with | .struct _ | .array _ _ => true | _ => false) = true) (hi : (P.info? ty).map (·.size) = some C.size) : (results fn tmps).run P W = .ok (.tuple #[.agg C, tmps.getD u undef]) W := by
  rw [results_cell_tmp hres, hp]
  have h1 := run_loadVar_row W R T ty C f d hR hu hd hi
  show ((loadVar ty ⟨R, 0, none⟩).run P W).andThen (fun v w₂ => Result.ok (Value.tuple #[v, tmps.getD u undef]) w₂) = _
  rw [h1]; rfl
end
/-- Some cells of an array, written. -/
def putA : Array Value → Nat → List Value → Array Value
  | C, _, [] => C
  | C, o, v :: r => putA (C.setIfInBounds o v) (o + 1) r
theorem heap_setCells {R : Nat} {T : TypeId} {f : Nat × Nat} : ∀ (vs : List Value) (o : Nat) (C : Array Value) (W : World), W.heap[R]? = some (.cells C T f) → (W.setCells R o vs).heap[R]? = some (.cells (putA C o vs) T f)
  | [], _, _, _, h => h
  | v :: r, o, C, W, h => heap_setCells r (o + 1) _ _ (heap_setCell_same h v)
theorem setCells_size {R : Nat} : ∀ (vs : List Value) (o : Nat) (W : World), (W.setCells R o vs).heap.size = W.heap.size
  | [], _, _ => rfl
  | v :: r, o, W => by rw [World.setCells, setCells_size r]; simp [World.setCell]
theorem below_setCells {R n : Nat} {w : World} (hn : n ≤ R) : ∀ (vs : List Value) (o : Nat) (W : World), Below n w W → Below n w (W.setCells R o vs)
  | [], _, _, h => h
  | v :: r, o, W, h => below_setCells hn r (o + 1) _ (h.setCell hn _)
theorem heap_setCells_other {R b : Nat} (hb : b ≠ R) : ∀ (vs : List Value) (o : Nat) (W : World), (W.setCells R o vs).heap[b]? = W.heap[b]?
  | [], _, _ => rfl
  | v :: r, o, W => by rw [World.setCells, heap_setCells_other hb r, Below.heap_setCell _ _ _ _ hb]
theorem range_of {W : World} {R : Nat} {C : Array Value} {T : TypeId} {f : Nat × Nat} (h : W.heap[R]? = some (.cells C T f)) : W.rangeAt R 0 C.toList := fun j v hv => by
  rw [Nat.zero_add, cell_of h j]; simpa using hv
theorem there_of {W : World} {R : Nat} {C : Array Value} {T : TypeId} (h : W.heap[R]? = some (.cells C T (0, 0))) : W.there R 0 C.size := fun j hj => by
  refine ⟨?_, frozen_of h _⟩
  rw [Nat.zero_add, cell_of h j]; simp [hj]
def zeroE : Array Value := #[.int .i64 0, .int .i64 0, .int .i64 0, .int .i64 0, .int .i64 0, .int .i64 0, .int .i64 0, .int .i64 0, .string ⟨#[]⟩, .bool false, .int .i64 0, .int .i64 0, .int .i64 0, .int .i64 0, .int .i64 0, .int .i64 0, .int .i64 0, .int .i64 0, .bool false]
def entC0 (d0 d1 d2 d3 d4 d5 d6 d7 : Int) (name : ByteArray) (must : Bool) : Array Value := #[.int .i64 d0, .int .i64 d1, .int .i64 d2, .int .i64 d3, .int .i64 d4, .int .i64 d5, .int .i64 d6, .int .i64 d7, .string name, .bool must, .int .i64 0, .int .i64 0, .int .i64 0, .int .i64 0, .int .i64 0, .int .i64 0, .int .i64 0, .int .i64 0, .bool false]
theorem entC0_one {d0 d1 d2 d3 d4 d5 d6 d7 : Int} {name : ByteArray} {must : Bool} : (entC0 d0 d1 d2 d3 d4 d5 d6 d7 name must).all (·.oneCell') = true := by
  simp [entC0, Value.oneCell']
def entC1 (d0 d1 d2 d3 d4 d5 d6 d7 : Int) (name : ByteArray) (must : Bool) (g0 g1 g2 g3 g4 g5 g6 g7 : Int) : Array Value := #[.int .i64 d0, .int .i64 d1, .int .i64 d2, .int .i64 d3, .int .i64 d4, .int .i64 d5, .int .i64 d6, .int .i64 d7, .string name, .bool must, .int .i64 g0, .int .i64 g1, .int .i64 g2, .int .i64 g3, .int .i64 g4, .int .i64 g5, .int .i64 g6, .int .i64 g7, .bool true]
theorem entC1_one {d0 d1 d2 d3 d4 d5 d6 d7 g0 g1 g2 g3 g4 g5 g6 g7 : Int} {name : ByteArray} {must : Bool} : ∀ v ∈ (entC1 d0 d1 d2 d3 d4 d5 d6 d7 name must g0 g1 g2 g3 g4 g5 g6 g7).toList, v.oneCell' = true := by
  simp [entC1, Value.oneCell']
theorem entC0_one' {d0 d1 d2 d3 d4 d5 d6 d7 : Int} {name : ByteArray} {must : Bool} : ∀ v ∈ (entC0 d0 d1 d2 d3 d4 d5 d6 d7 name must).toList, v.oneCell' = true := by
  simp [entC0, Value.oneCell']
theorem put_all {d0 d1 d2 d3 d4 d5 d6 d7 : Int} {name : ByteArray} {must : Bool} : putA zeroE 0 (entC0 d0 d1 d2 d3 d4 d5 d6 d7 name must).toList = entC0 d0 d1 d2 d3 d4 d5 d6 d7 name must := by
  apply Array.ext'
  simp [putA, zeroE, entC0]
theorem put18 {d0 d1 d2 d3 d4 d5 d6 d7 : Int} {name : ByteArray} {must : Bool} : (entC0 d0 d1 d2 d3 d4 d5 d6 d7 name must).setIfInBounds 18 (.bool true) = entC1 d0 d1 d2 d3 d4 d5 d6 d7 name must 0 0 0 0 0 0 0 0 := by
  apply Array.ext'
  simp [entC0, entC1]
theorem put8 {d0 d1 d2 d3 d4 d5 d6 d7 g0 g1 g2 g3 g4 g5 g6 g7 : Int} {name : ByteArray} {must : Bool} : putA (entC1 d0 d1 d2 d3 d4 d5 d6 d7 name must 0 0 0 0 0 0 0 0) 10 [.int .i64 g0, .int .i64 g1, .int .i64 g2, .int .i64 g3, .int .i64 g4, .int .i64 g5, .int .i64 g6, .int .i64 g7] = entC1 d0 d1 d2 d3 d4 d5 d6 d7 name must g0 g1 g2 g3 g4 g5 g6 g7 := by
  apply Array.ext'
  simp [putA, entC1]
theorem nest8 {W : World} {R : Nat} {g0 g1 g2 g3 g4 g5 g6 g7 : Int} : ((((((((W.setCell ⟨R, 10, none⟩ (.int .i64 g0)).setCell ⟨R, 11, none⟩ (.int .i64 g1)).setCell ⟨R, 12, none⟩ (.int .i64 g2)).setCell ⟨R, 13, none⟩ (.int .i64 g3)).setCell ⟨R, 14, none⟩ (.int .i64 g4)).setCell ⟨R, 15, none⟩ (.int .i64 g5)).setCell ⟨R, 16, none⟩ (.int .i64 g6)).setCell ⟨R, 17, none⟩ (.int .i64 g7)) = W.setCells R 10 [.int .i64 g0, .int .i64 g1, .int .i64 g2, .int .i64 g3, .int .i64 g4, .int .i64 g5, .int .i64 g6, .int .i64 g7] := rfl
theorem heap_e8 {W : World} {R : Nat} {T : TypeId} {d0 d1 d2 d3 d4 d5 d6 d7 g0 g1 g2 g3 g4 g5 g6 g7 : Int} {name : ByteArray} {must : Bool} (h : W.heap[R]? = some (.cells (entC1 d0 d1 d2 d3 d4 d5 d6 d7 name must 0 0 0 0 0 0 0 0) T (0, 0))) : ((((((((W.setCell ⟨R, 10, none⟩ (.int .i64 g0)).setCell ⟨R, 11, none⟩ (.int .i64 g1)).setCell ⟨R, 12, none⟩ (.int .i64 g2)).setCell ⟨R, 13, none⟩ (.int .i64 g3)).setCell ⟨R, 14, none⟩ (.int .i64 g4)).setCell ⟨R, 15, none⟩ (.int .i64 g5)).setCell ⟨R, 16, none⟩ (.int .i64 g6)).setCell ⟨R, 17, none⟩ (.int .i64 g7)).heap[R]? = some (.cells (entC1 d0 d1 d2 d3 d4 d5 d6 d7 name must g0 g1 g2 g3 g4 g5 g6 g7) T (0, 0)) := by
  rw [nest8]
  exact (heap_setCells _ 10 _ W h).trans (by rw [put8])
theorem below_e8 {W w : World} {R n : Nat} {g0 g1 g2 g3 g4 g5 g6 g7 : Int} (hn : n ≤ R) (h : Below n w W) : Below n w ((((((((W.setCell ⟨R, 10, none⟩ (.int .i64 g0)).setCell ⟨R, 11, none⟩ (.int .i64 g1)).setCell ⟨R, 12, none⟩ (.int .i64 g2)).setCell ⟨R, 13, none⟩ (.int .i64 g3)).setCell ⟨R, 14, none⟩ (.int .i64 g4)).setCell ⟨R, 15, none⟩ (.int .i64 g5)).setCell ⟨R, 16, none⟩ (.int .i64 g6)).setCell ⟨R, 17, none⟩ (.int .i64 g7)) := by
  rw [nest8]
  exact below_setCells hn _ 10 _ h
/-- An entry, as it is told: what it leads to, if it is there. -/
def entC (T : IT.Tr) (dir : Nat) (m : IT.Nd) (name : ByteArray) (must : Bool) (to : Option (Nat × IT.Nd)) : Array Value := match to with
  | none => #[.int .i64 (dir : Nat), .int .i64 m.kind, .int .i64 m.mode, .int .i64 m.owner, .int .i64 m.group, .int .i64 (IT.lnk T dir : Nat), .int .i64 (m.data.length + m.names.length : Nat), .int .i64 m.tty, .string name, .bool must, .int .i64 0, .int .i64 0, .int .i64 0, .int .i64 0, .int .i64 0, .int .i64 0, .int .i64 0, .int .i64 0, .bool false]
  | some (k, q) => #[.int .i64 (dir : Nat), .int .i64 m.kind, .int .i64 m.mode, .int .i64 m.owner, .int .i64 m.group, .int .i64 (IT.lnk T dir : Nat), .int .i64 (m.data.length + m.names.length : Nat), .int .i64 m.tty, .string name, .bool must, .int .i64 (k : Nat), .int .i64 q.kind, .int .i64 q.mode, .int .i64 q.owner, .int .i64 q.group, .int .i64 (IT.lnk T k : Nat), .int .i64 (q.data.length + q.names.length : Nat), .int .i64 q.tty, .bool true]
def EntPost (T : IT.Tr) (c : Cr) (cwd : Int) (s : ByteArray) (w : World) (e : Ending) (w' : World) : Prop :=
  Below w.heap.size w w' ∧ match entryT T c cwd (bs s) with
    | .error r => e = .returned (.tuple #[.agg zeroE, .int .i64 r])
    | .ok x => ∃ m to, T x.dir = some m ∧ (match x.to with
        | none => to = none
        | some k => ∃ q, T k = some q ∧ to = some (k, q)) ∧ e = .returned (.tuple #[.agg (entC T x.dir m (tx x.name) x.must to), .int .i64 0])
theorem entPost_err {T : IT.Tr} {c : Cr} {cwd : Int} {s : ByteArray} {w w' : World} {r : Int} (h : entryT T c cwd (bs s) = .error r) (hb : Below w.heap.size w w') : EntPost T c cwd s w (.returned (.tuple #[.agg zeroE, .int .i64 r])) w' := by
  unfold EntPost
  rw [h]
  exact ⟨hb, rfl⟩
theorem entPost_ok {T : IT.Tr} {c : Cr} {cwd : Int} {s : ByteArray} {w w' : World} {x : Ent} {m : IT.Nd} {to : Option (Nat × IT.Nd)} {v : Value} (h : entryT T c cwd (bs s) = .ok x) (hm : T x.dir = some m) (ht : match x.to with
        | none => to = none
        | some k => ∃ q, T k = some q ∧ to = some (k, q)) (hv : v = .agg (entC T x.dir m (tx x.name) x.must to)) (hb : Below w.heap.size w w') : EntPost T c cwd s w (.returned (.tuple #[v, .int .i64 0])) w' := by
  unfold EntPost
  rw [h]
  exact ⟨hb, m, to, hm, ht, by rw [hv]⟩
end Go.Proofs.Ytafonmnfeibaiaa
namespace Go.Proofs.Ytafonmnfeibaiaa
open Go.RowKit

theorem row_of_owns2 {W : World} {base : Nat} {v : Value} {l : List ByteArray} (h : W.ownsRow base 9 1 v l.length (l.map .string)) : ∃ a cap, v = .slice a l.length cap ∧ Row W a l ∧ l.length ≤ cap ∧ cap ≤ maxLen := by
  obtain ⟨a, cap, e, hr, hl, _⟩ := row_of_owns h
  refine ⟨a, cap, e, hr, ?_⟩
  obtain ⟨_, ⟨h1, h2⟩ | ⟨g, cap2, cur, h1, h3, h4, h5, h6, h7, h8⟩⟩ := h
  · rw [e] at h1
    injection h1 with x1 x2 x3
    exact ⟨by omega, by rw [x3]; exact Nat.zero_le _⟩
  · rw [e] at h1
    injection h1 with x1 x2 x3
    exact ⟨by omega, by omega⟩
theorem snoc {α : Type} (l : List α) : l = [] ∨ ∃ m x, l = m ++ [x] := by
  rcases List.eq_nil_or_concat l with h | ⟨m, x, h⟩
  · exact .inl h
  · exact .inr ⟨m, x, by rw [h, List.concat_eq_append]⟩
theorem last_of {l : List ByteArray} {x : ByteArray} : ((l ++ [x]).map bs).getLast? = some (bs x) := by simp
theorem init_of {l : List ByteArray} {x : ByteArray} : ((l ++ [x]).map bs).dropLast = l.map bs := by simp
theorem Row.init {w : World} {a : Option Addr} {l : List ByteArray} {x : ByteArray} (h : Row w a (l ++ [x])) : Row w a l := fun j hj => by
  obtain ⟨b, off, e, hlt, hc⟩ := h j (by simp; omega)
  exact ⟨b, off, e, hlt, by rw [hc, List.getElem_append_left hj]⟩
theorem Row.last {w : World} {a : Option Addr} {l : List ByteArray} {x : ByteArray} (h : Row w a (l ++ [x])) : ∃ b off, a = some ⟨b, off, none⟩ ∧ b < w.heap.size ∧ w.cell? ⟨b, off + l.length, none⟩ = some (.string x) := by
  obtain ⟨b, off, e, hlt, hc⟩ := h l.length (by simp)
  exact ⟨b, off, e, hlt, by rw [hc]; simp⟩
theorem infC_inj {T : IT.Tr} {k : Nat} {m : IT.Nd} {d0 d1 d2 d3 d4 d5 d6 d7 : Int} (h : infC T k m = #[.int .i64 d0, .int .i64 d1, .int .i64 d2, .int .i64 d3, .int .i64 d4, .int .i64 d5, .int .i64 d6, .int .i64 d7]) : (k : Int) = d0 ∧ m.kind = d1 ∧ m.mode = d2 ∧ m.owner = d3 ∧ m.group = d4 ∧ (IT.lnk T k : Int) = d5 ∧ ((m.data.length + m.names.length : Nat) : Int) = d6 ∧ m.tty = d7 := by
  unfold infC at h
  simpa using h
/-- down, its answer as eight numbers. -/
theorem wdown_ints {w : World} {t : Nat} {S : Tab} {T : IT.Tr} (h : Tre w t S T) (cwd : Int) (c : Cr) (abs : Bool) (a : Option Addr) (cap : Nat) (l : List ByteArray) (hrow : Row w a l) (hl : l.length ≤ maxLen) {k : Nat} {r : Int} (hg : goT T c cwd abs (l.map bs) = (k, r)) :
    ∃ d0 d1 d2 d3 d4 d5 d6 d7 : Int, (r = 0 → ∃ m, T k = some m ∧ infC T k m = #[.int .i64 d0, .int .i64 d1, .int .i64 d2, .int .i64 d3, .int .i64 d4, .int .i64 d5, .int .i64 d6, .int .i64 d7]) ∧ ∀ W', Below w.heap.size w W' → Calls Try.prog 75 #[ask t cwd c, .bool abs, .slice a l.length cap] W' fun e w' => e = .returned (.tuple #[.agg #[.int .i64 d0, .int .i64 d1, .int .i64 d2, .int .i64 d3, .int .i64 d4, .int .i64 d5, .int .i64 d6, .int .i64 d7], .int .i64 r]) ∧ Below W'.heap.size W' w' := by
  have HD : ∀ W', Below w.heap.size w W' → Calls Try.prog 75 #[ask t cwd c, .bool abs, .slice a l.length cap] W' (DownPost T c cwd abs l W') := fun W' hb => wdown_any (h.mv ((Mv.refl h.rep).below hb)) cwd c abs a cap l (hrow.below hb) hl
  by_cases hr : r = 0
  · subst hr
    have hgo := go_there (c := c) (cwd := cwd) (abs := abs) (l := l.map bs) h.snd
    rw [hg] at hgo
    obtain ⟨m, hm⟩ := hgo rfl
    refine ⟨k, m.kind, m.mode, m.owner, m.group, (IT.lnk T k : Nat), (m.data.length + m.names.length : Nat), m.tty, fun _ => ⟨m, hm, rfl⟩, fun W' hb => (HD W' hb).mono ?_⟩
    rintro e w' ⟨v, rfl, hv, hb2⟩
    rw [hg] at hv ⊢
    refine ⟨?_, hb2⟩
    rw [hv, if_pos rfl, ← stat_eq hm]
    rfl
  · refine ⟨0, 0, 0, 0, 0, 0, 0, 0, fun h0 => absurd h0 hr, fun W' hb => (HD W' hb).mono ?_⟩
    rintro e w' ⟨v, rfl, hv, hb2⟩
    rw [hg] at hv ⊢
    refine ⟨?_, hb2⟩
    rw [hv, if_neg hr]
    rfl
set_option maxRecDepth 100000 in
set_option maxHeartbeats 8000000 in
theorem wentry_any {w : World} {t : Nat} {S : Tab} {T : IT.Tr} (h : Tre w t S T) (cwd : Int) (c : Cr) (s : ByteArray) :
    Calls Try.prog 37 #[ask t cwd c, .string s] w (EntPost T c cwd s w) := by
  have H := Lib.hid h
  clear h
  unfold ask
  go_enter Try.func37, Try.ntmps37
  go_wp2_with fail
  refine (Pp.split_any s _).mono ?_
  rintro e w1 ⟨abs, dir, v, l, err, rfl, hown, hb, hsp⟩
  obtain ⟨a, cap, rfl, hrow, hlc, hcm⟩ := row_of_owns2 hown
  have hlen : l.length ≤ maxLen := Nat.le_trans hlc hcm
  have HSP := Lib.hid (split_of hsp)
  rw [alloc_size, alloc_size] at hb
  obtain ⟨b0, b1, hlt, hbb⟩ := two_blocks hb
  have HROW := Lib.hid hrow
  have HLEN := Lib.hid hlen
  have HBB := Lib.hid hbb
  have HLT := Lib.hid hlt
  have HB0 := Lib.hid b0
  have HB1 := Lib.hid b1
  by_cases he : err = 0
  · subst he
    rcases snoc l with rfl | ⟨l, x0, rfl⟩
    · have hs1 : w.heap.size + 1 < w1.heap.size := hlt
      have hs2 : w.heap.size < w1.heap.size := by omega
      have HE : Hid (entryT T c cwd (bs s) = .error 1) := Lib.hid (by
        unfold entryT
        rw [HSP.out]
        dsimp only
        rw [if_neg (by decide), if_pos (.inl rfl)])
      have hR : (w1.alloc (.cells #[.bool abs, .slice a 0 cap, .bool dir] 115)).heap[w.heap.size + 1]? = some (.cells zeroE 77 (0, 0)) := (alloc_heap_old w1 _ (by omega)).trans b1
      have hL := range_of hR
      have l2 := sc_blk (P := Try.prog) hR 0 zeroE.toList (C' := zeroE) rfl (Nat.le_refl _) (by decide)
      have HRR := Lib.hid hR
      clear hown hb hsp b0 b1 hbb hrow hlen hlt hR
      go_wp2_with (refine wpList_load_mid rfl 77 _ rfl (w.heap.size + 1) 0 rfl zeroE.toList _ hL rfl rfl rfl ?_)
      refine bodyPost_ret (ret_blk rfl rfl (heap_setRow_same HRR.out) rfl rfl rfl) rfl ?_
      exact entPost_err HE.out (below_setRow (belowA HBB.out _) (by omega))
    · have hN : (l ++ [x0]).length = l.length + 1 := by simp
      rw [hN]
      have hs1 : w.heap.size + 1 < w1.heap.size := hlt
      have hs2 : w.heap.size < w1.heap.size := by omega
      have hp0 : w.heap.size + 1 < w1.heap.size + 1 := by omega
      obtain ⟨bn, on, rfl, hbn, hcn⟩ := hrow.last
      rw [hN] at hlen hlc
      have hR : (w1.alloc (.cells #[.bool abs, .slice (some ⟨bn, on, none⟩) (l.length + 1) cap, .bool dir] 115)).heap[w.heap.size + 1]? = some (.cells zeroE 77 (0, 0)) := (alloc_heap_old w1 _ (by omega)).trans b1
      have hL := range_of hR
      have l2 := sc_blk (P := Try.prog) hR 0 zeroE.toList (C' := zeroE) rfl (Nat.le_refl _) (by decide)
      have HRR := Lib.hid hR
      have hw1 : wrap64 ((l.length : Nat) : Int) = (l.length : Nat) := by unfold maxLen at hlen; unfold wrap64; omega
      have hi1 : ((l.length : Nat) : Int) < 0 ↔ False := ⟨fun hh => absurd hh (by omega), False.elim⟩
      have hcn2 : (w1.alloc (.cells #[.bool abs, .slice (some ⟨bn, on, none⟩) (l.length + 1) cap, .bool dir] 115)).cell? ⟨bn, on + l.length, none⟩ = some (.string x0) := by rw [World.cell?_alloc_lt _ _ _ hbn]; exact hcn
      have hi2 : l.length < l.length + 1 := by omega
      clear hown hb hsp b0 b1 hbb hrow hlt hR hcn
      by_cases hd : x0 = ⟨#[46, 46]⟩
      · subst hd
        have HE : Hid (entryT T c cwd (bs s) = .error 1) := Lib.hid (by
          unfold entryT
          rw [HSP.out]
          dsimp only
          rw [if_neg (by decide), if_pos (.inr last_of)])
        go_wp2_with (refine wpList_load_mid rfl 77 _ rfl (w.heap.size + 1) 0 rfl zeroE.toList _ hL rfl rfl rfl ?_)
        refine bodyPost_ret (ret_blk rfl rfl (heap_setRow_same HRR.out) rfl rfl rfl) rfl ?_
        exact entPost_err HE.out (below_setRow (belowA HBB.out _) (by omega))
      · have hd1 : (x0.toList == [46, 46]) = false := by rw [ByteArray.toList_eq]; exact beq_eq_false_iff_ne.2 (fun hh => hd (ByteArray.ext (Array.ext' hh)))
        have ho : (w1.alloc (.cells #[.bool abs, .slice (some ⟨bn, on, none⟩) (l.length + 1) cap, .bool dir] 115)).heap[w.heap.size]? = some (.cells (askC t cwd c) 74 (0, 0)) := (alloc_heap_old w1 _ (by omega)).trans HB0.out
        obtain ⟨⟨k, r⟩, hg⟩ : ∃ g, goT T c cwd abs (l.map bs) = g := ⟨_, rfl⟩
        have hpb : (w1.alloc (.cells #[.bool abs, .slice (some ⟨bn, on, none⟩) (l.length + 1) cap, .bool dir] 115)).heap[w1.heap.size]? = some (.cells #[.bool abs, .slice (some ⟨bn, on, none⟩) (l.length + 1) cap, .bool dir] 115 (0, 0)) := alloc_heap _ _
        have hbp : Below w.heap.size w (w1.alloc (.cells #[.bool abs, .slice (some ⟨bn, on, none⟩) (l.length + 1) cap, .bool dir] 115)) := belowA HBB.out _
        have hrow0 : Row (w1.alloc (.cells #[.bool abs, .slice (some ⟨bn, on, none⟩) (l.length + 1) cap, .bool dir] 115)) (some ⟨bn, on, none⟩) l := HROW.out.init.below ((Below.refl _ _).alloc (Nat.le_refl _) _)
        have hsz : w1.heap.size < (w1.alloc (.cells #[.bool abs, .slice (some ⟨bn, on, none⟩) (l.length + 1) cap, .bool dir] 115)).heap.size := by rw [alloc_size]; omega
        have hi3 : (0 : Int) ≤ (l.length : Nat) := by omega
        have hi4 : ((l.length : Nat) : Int) ≤ (cap : Nat) := by omega
        have hi5 : ((l.length : Nat) : Int) ≤ (l.length + 1 : Nat) := by omega
        have hi6 : l.length ≤ cap := by omega
        go_upto_region 7 with fail
        generalize w1.alloc (.cells #[.bool abs, .slice (some ⟨bn, on, none⟩) (l.length + 1) cap, .bool dir] 115) = W0 at *
        have hBP : w.heap.size < w1.heap.size := hs2
        have hbn2 : bn < W0.heap.size := by have := hsz; omega
        have hRP : w.heap.size + 1 < w1.heap.size := hs1
        generalize hP : w1.heap.size = P at *
        generalize hB : w.heap.size = B at *
        have hBW : B < W0.heap.size := by omega
        obtain ⟨d0, d1, d2, d3, d4, d5, d6, d7, hm0, HD⟩ := wdown_ints (H.out.mv ((Mv.refl H.out.rep).below (by rw [hB]; exact hbp))) cwd c abs _ cap l hrow0 (by omega) hg
        have KP : ∀ W', Below W0.heap.size W0 W' → (Below W0.heap.size W0 W' ∧ W'.cell? ⟨B, 0, none⟩ = some (.pointer (some ⟨t, 0, none⟩)) ∧ W'.cell? ⟨B, 1, none⟩ = some (.int .i64 cwd) ∧ W'.cell? ⟨B, 2, none⟩ = some (.int .i64 c.real) ∧ W'.cell? ⟨B, 3, none⟩ = some (.int .i64 c.eff) ∧ W'.cell? ⟨B, 4, none⟩ = some (.int .i64 c.saved) ∧ W'.cell? ⟨B, 5, none⟩ = some (.int .i64 c.group) ∧ W'.cell? ⟨B, 6, none⟩ = some (.int .i64 c.eg) ∧ W'.cell? ⟨P, 0, none⟩ = some (.bool abs) ∧ W'.cell? ⟨P, 1, none⟩ = some (.slice (some ⟨bn, on, none⟩) (l.length + 1) cap)) := fun W' hb => by
          have h1 : W'.heap[B]? = some (.cells (askC t cwd c) 74 (0, 0)) := (hb.block _ hBW).trans ho
          have h2 : W'.heap[P]? = some (.cells #[.bool abs, .slice (some ⟨bn, on, none⟩) (l.length + 1) cap, .bool dir] 115 (0, 0)) := (hb.block _ hsz).trans hpb
          exact ⟨hb, cell_of h1 0, cell_of h1 1, cell_of h1 2, cell_of h1 3, cell_of h1 4, cell_of h1 5, cell_of h1 6, cell_of h2 0, cell_of h2 1⟩
        have HHO := Lib.hid ho
        have HPB := Lib.hid hpb
        have HM0 := Lib.hid hm0
        have HRW := Lib.hid hrow0
        have HDD : Hid (bs x0 ≠ [46, 46]) := Lib.hid (fun hh => hd (ByteArray.ext (Array.ext' hh)))
        clear ho hd hpb hrow0 hm0
        unfold ask at HD
        have HFK : ∀ (W : World) (D : Nat), Below W0.heap.size W0 W → W.heap[D]? = some (.cells #[.int .i64 d0, .int .i64 d1, .int .i64 d2, .int .i64 d3, .int .i64 d4, .int .i64 d5, .int .i64 d6, .int .i64 d7] 35 (0, 0)) → Hid (Below B w W ∧ W.heap[B]? = some (.cells (askC t cwd c) 74 (0, 0)) ∧ W.heap[B + 1]? = some (.cells zeroE 77 (0, 0)) ∧ W.heap[P]? = some (.cells #[.bool abs, .slice (some ⟨bn, on, none⟩) (l.length + 1) cap, .bool dir] 115 (0, 0)) ∧ W.heap[D]? = some (.cells #[.int .i64 d0, .int .i64 d1, .int .i64 d2, .int .i64 d3, .int .i64 d4, .int .i64 d5, .int .i64 d6, .int .i64 d7] 35 (0, 0)) ∧ W.cell? ⟨bn, on + l.length, none⟩ = some (.string x0)) := fun W D hb hd => Lib.hid ⟨hbp.trans (hb.mono (by omega)), (hb.block _ hBW).trans HHO.out, (hb.block _ (by omega)).trans HRR.out, (hb.block _ hsz).trans HPB.out, hd, by rw [hb.cell (p := ⟨bn, on + l.length, none⟩) hbn2]; exact hcn2⟩
        have HAD : ∀ w2, Below (W0.alloc (.cells #[.int .i64 0, .int .i64 0, .int .i64 0, .int .i64 0, .int .i64 0, .int .i64 0, .int .i64 0, .int .i64 0] 35)).drew.heap.size (W0.alloc (.cells #[.int .i64 0, .int .i64 0, .int .i64 0, .int .i64 0, .int .i64 0, .int .i64 0, .int .i64 0, .int .i64 0] 35)).drew w2 → w2.heap[W0.heap.size]? = some (.cells #[.int .i64 0, .int .i64 0, .int .i64 0, .int .i64 0, .int .i64 0, .int .i64 0, .int .i64 0, .int .i64 0] 35 (0, 0)) ∧ W0.heap.size < w2.heap.size := fun w2 hb => by
          have hs : (W0.alloc (.cells #[.int .i64 0, .int .i64 0, .int .i64 0, .int .i64 0, .int .i64 0, .int .i64 0, .int .i64 0, .int .i64 0] 35)).drew.heap.size = W0.heap.size + 1 := alloc_size _ _
          have h1 := (hb.block W0.heap.size (by omega)).trans (alloc_heap W0 _)
          exact ⟨h1, lt_of_heap h1⟩
        go_region_held3 (fun W' => Below W0.heap.size W0 W' ∧ W'.cell? ⟨B, 0, none⟩ = some (.pointer (some ⟨t, 0, none⟩)) ∧ W'.cell? ⟨B, 1, none⟩ = some (.int .i64 cwd) ∧ W'.cell? ⟨B, 2, none⟩ = some (.int .i64 c.real) ∧ W'.cell? ⟨B, 3, none⟩ = some (.int .i64 c.eff) ∧ W'.cell? ⟨B, 4, none⟩ = some (.int .i64 c.saved) ∧ W'.cell? ⟨B, 5, none⟩ = some (.int .i64 c.group) ∧ W'.cell? ⟨B, 6, none⟩ = some (.int .i64 c.eg) ∧ W'.cell? ⟨P, 0, none⟩ = some (.bool abs) ∧ W'.cell? ⟨P, 1, none⟩ = some (.slice (some ⟨bn, on, none⟩) (l.length + 1) cap))
          (first | (refine KP _ ?_; first
            | with_reducible exact (Below.refl _ _).drew
            | with_reducible exact Below.refl _ _
            | with_reducible exact ((Below.refl _ _).alloc (Nat.le_refl _) _).drew
            | with_reducible exact (‹Below W0.heap.size W0 _ ∧ _›).1
            | with_reducible exact hbz
            | with_reducible exact hbz.alloc hbz.size _
            | with_reducible exact below_set8 hbz (Nat.le_refl _)
            | with_reducible exact (‹Below W0.heap.size W0 _ ∧ _›).1.alloc (‹Below W0.heap.size W0 _ ∧ _›).1.size _))
          (first
            | (go_at_call 75; refine (HD _ (‹Below W0.heap.size W0 _ ∧ _›).1).mono ?_; rintro e w2 ⟨rfl, hb1⟩; have hbz : Below W0.heap.size W0 w2 := (‹Below W0.heap.size W0 _ ∧ _›).1.trans (hb1.mono (‹Below W0.heap.size W0 _ ∧ _›).1.size); have hb2 : Below W0.drew.heap.size W0.drew w2 := hb1; clear hb2)
            | (go_at_call 75; refine (HD _ (‹Below W0.heap.size W0 _ ∧ _›).1).mono ?_; rintro e w2 ⟨rfl, hb1⟩; have hbz : Below W0.heap.size W0 w2 := (‹Below W0.heap.size W0 _ ∧ _›).1.trans (hb1.mono (‹Below W0.heap.size W0 _ ∧ _›).1.size); obtain ⟨qD, hDlt⟩ := HAD _ hb1; have z0 : w2.cell? ⟨W0.heap.size, 0, none⟩ = some (.int .i64 0) := cell_of qD 0; have y0 : w2.frozen? ⟨W0.heap.size, 0, none⟩ = false := frozen_of qD 0; have z1 : w2.cell? ⟨W0.heap.size, 1, none⟩ = some (.int .i64 0) := cell_of qD 1; have y1 : w2.frozen? ⟨W0.heap.size, 1, none⟩ = false := frozen_of qD 1; have z2 : w2.cell? ⟨W0.heap.size, 2, none⟩ = some (.int .i64 0) := cell_of qD 2; have y2 : w2.frozen? ⟨W0.heap.size, 2, none⟩ = false := frozen_of qD 2; have z3 : w2.cell? ⟨W0.heap.size, 3, none⟩ = some (.int .i64 0) := cell_of qD 3; have y3 : w2.frozen? ⟨W0.heap.size, 3, none⟩ = false := frozen_of qD 3; have z4 : w2.cell? ⟨W0.heap.size, 4, none⟩ = some (.int .i64 0) := cell_of qD 4; have y4 : w2.frozen? ⟨W0.heap.size, 4, none⟩ = false := frozen_of qD 4; have z5 : w2.cell? ⟨W0.heap.size, 5, none⟩ = some (.int .i64 0) := cell_of qD 5; have y5 : w2.frozen? ⟨W0.heap.size, 5, none⟩ = false := frozen_of qD 5; have z6 : w2.cell? ⟨W0.heap.size, 6, none⟩ = some (.int .i64 0) := cell_of qD 6; have y6 : w2.frozen? ⟨W0.heap.size, 6, none⟩ = false := frozen_of qD 6; have z7 : w2.cell? ⟨W0.heap.size, 7, none⟩ = some (.int .i64 0) := cell_of qD 7; have y7 : w2.frozen? ⟨W0.heap.size, 7, none⟩ = false := frozen_of qD 7; have HQD := Lib.hid qD; clear qD))
        · have HF := HFK _ _ (hbz.alloc hbz.size _) (alloc_heap w2 (.cells #[.int .i64 d0, .int .i64 d1, .int .i64 d2, .int .i64 d3, .int .i64 d4, .int .i64 d5, .int .i64 d6, .int .i64 d7] 35))
          have HDS := Lib.hid hbz.size
          have HB0W := Lib.hid (hbz.alloc hbz.size (.cells #[.int .i64 d0, .int .i64 d1, .int .i64 d2, .int .i64 d3, .int .i64 d4, .int .i64 d5, .int .i64 d6, .int .i64 d7] 35))
          clear hb1 hbz 
          generalize (w2.alloc (.cells #[.int .i64 d0, .int .i64 d1, .int .i64 d2, .int .i64 d3, .int .i64 d4, .int .i64 d5, .int .i64 d6, .int .i64 d7] 35)) = W at *
          generalize w2.heap.size = D at HF HDS ⊢
          by_cases hr : r = 0
          · subst hr
            obtain ⟨m, hm, hmv⟩ := HM0.out rfl
            have hW := HF.out
            have a0 : W.cell? ⟨B, 0, none⟩ = some (.pointer (some ⟨t, 0, none⟩)) := cell_of hW.2.1 0
            have a1 : W.cell? ⟨B, 1, none⟩ = some (.int .i64 cwd) := cell_of hW.2.1 1
            have a2 : W.cell? ⟨B, 2, none⟩ = some (.int .i64 c.real) := cell_of hW.2.1 2
            have a3 : W.cell? ⟨B, 3, none⟩ = some (.int .i64 c.eff) := cell_of hW.2.1 3
            have a4 : W.cell? ⟨B, 4, none⟩ = some (.int .i64 c.saved) := cell_of hW.2.1 4
            have a5 : W.cell? ⟨B, 5, none⟩ = some (.int .i64 c.group) := cell_of hW.2.1 5
            have a6 : W.cell? ⟨B, 6, none⟩ = some (.int .i64 c.eg) := cell_of hW.2.1 6
            have q0 : W.cell? ⟨D, 0, none⟩ = some (.int .i64 d0) := cell_of hW.2.2.2.2.1 0
            have q1 : W.cell? ⟨D, 1, none⟩ = some (.int .i64 d1) := cell_of hW.2.2.2.2.1 1
            have q2 : W.cell? ⟨D, 2, none⟩ = some (.int .i64 d2) := cell_of hW.2.2.2.2.1 2
            have q3 : W.cell? ⟨D, 3, none⟩ = some (.int .i64 d3) := cell_of hW.2.2.2.2.1 3
            have q4 : W.cell? ⟨D, 4, none⟩ = some (.int .i64 d4) := cell_of hW.2.2.2.2.1 4
            have q5 : W.cell? ⟨D, 5, none⟩ = some (.int .i64 d5) := cell_of hW.2.2.2.2.1 5
            have q6 : W.cell? ⟨D, 6, none⟩ = some (.int .i64 d6) := cell_of hW.2.2.2.2.1 6
            have q7 : W.cell? ⟨D, 7, none⟩ = some (.int .i64 d7) := cell_of hW.2.2.2.2.1 7
            clear hW
            go_wp2_with fail
            refine (wenters_any t cwd c _ _ _ _ _ _ _ _ _).mono ?_
            rintro e w3 ⟨r2, rfl, hr2, hb⟩
            have HF3 := HFK w3 D (HB0W.out.trans (hb.mono HB0W.out.size)) ((hb.block _ (lt_of_heap HF.out.2.2.2.2.1)).trans HF.out.2.2.2.2.1)
            have HB3 := Lib.hid (HB0W.out.trans (hb.mono HB0W.out.size))
            have HMV := Lib.hid (infC_inj hmv)
            have HR2 : Hid (r2 = entersE m c) := Lib.hid (by
              rw [hr2]
              obtain ⟨e0, e1, e2, e3, e4, _, _, _⟩ := HMV.out
              rw [← e1, ← e2, ← e3, ← e4]
              rfl)
            have HM := Lib.hid hm
            clear a0 a1 a2 a3 a4 a5 a6 q0 q1 q2 q3 q4 q5 q6 q7 hr2 hmv hm hb
            by_cases hz : r2 = 0
            · subst hz
              have hW := HF3.out
              have a0 : w3.cell? ⟨B, 0, none⟩ = some (.pointer (some ⟨t, 0, none⟩)) := cell_of hW.2.1 0
              have q0 : w3.cell? ⟨D, 0, none⟩ = some (.int .i64 d0) := cell_of hW.2.2.2.2.1 0
              have q1 : w3.cell? ⟨D, 1, none⟩ = some (.int .i64 d1) := cell_of hW.2.2.2.2.1 1
              have q2 : w3.cell? ⟨D, 2, none⟩ = some (.int .i64 d2) := cell_of hW.2.2.2.2.1 2
              have q3 : w3.cell? ⟨D, 3, none⟩ = some (.int .i64 d3) := cell_of hW.2.2.2.2.1 3
              have q4 : w3.cell? ⟨D, 4, none⟩ = some (.int .i64 d4) := cell_of hW.2.2.2.2.1 4
              have q5 : w3.cell? ⟨D, 5, none⟩ = some (.int .i64 d5) := cell_of hW.2.2.2.2.1 5
              have q6 : w3.cell? ⟨D, 6, none⟩ = some (.int .i64 d6) := cell_of hW.2.2.2.2.1 6
              have q7 : w3.cell? ⟨D, 7, none⟩ = some (.int .i64 d7) := cell_of hW.2.2.2.2.1 7
              have p1 : w3.cell? ⟨P, 1, none⟩ = some (.slice (some ⟨bn, on, none⟩) (l.length + 1) cap) := cell_of hW.2.2.2.1 1
              have p2 : w3.cell? ⟨P, 2, none⟩ = some (.bool dir) := cell_of hW.2.2.2.1 2
              have hcn3 := hW.2.2.2.2.2
              clear hW
              have hT : w3.there (B + 1) 0 19 := there_of HF3.out.2.2.1
              have hi7 : ((l.length : Nat) : Int) < ((l.length : Nat) : Int) + 1 := by omega
              go_wp2_with fail
              go_still_tail 9, (by kernel_rfl)
              refine wpList_store_mid rfl 77 _ _ rfl (B + 1) 0 (entC0 d0 d1 d2 d3 d4 d5 d6 d7 x0 dir) rfl rfl hT rfl entC0_one ?_
              have HF4 : Hid (Below B w (World.setCells { w3 with drawn := w3.drawn + 1 } (B + 1) 0 (entC0 d0 d1 d2 d3 d4 d5 d6 d7 x0 dir).toList) ∧ (World.setCells { w3 with drawn := w3.drawn + 1 } (B + 1) 0 (entC0 d0 d1 d2 d3 d4 d5 d6 d7 x0 dir).toList).heap[B]? = some (.cells (askC t cwd c) 74 (0, 0)) ∧ (World.setCells { w3 with drawn := w3.drawn + 1 } (B + 1) 0 (entC0 d0 d1 d2 d3 d4 d5 d6 d7 x0 dir).toList).heap[B + 1]? = some (.cells (entC0 d0 d1 d2 d3 d4 d5 d6 d7 x0 dir) 77 (0, 0)) ∧ (World.setCells { w3 with drawn := w3.drawn + 1 } (B + 1) 0 (entC0 d0 d1 d2 d3 d4 d5 d6 d7 x0 dir).toList).heap[D]? = some (.cells #[.int .i64 d0, .int .i64 d1, .int .i64 d2, .int .i64 d3, .int .i64 d4, .int .i64 d5, .int .i64 d6, .int .i64 d7] 35 (0, 0))) := Lib.hid ⟨below_setCells (by omega) _ _ _ HF3.out.1.drew, (heap_setCells_other (by omega) _ _ _).trans HF3.out.2.1, (heap_setCells _ 0 _ { w3 with drawn := w3.drawn + 1 } HF3.out.2.2.1).trans (by rw [put_all]), (heap_setCells_other (by have := HDS.out; omega) _ _ _).trans HF3.out.2.2.2.2.1⟩
              generalize World.setCells { w3 with drawn := w3.drawn + 1 } (B + 1) 0 (entC0 d0 d1 d2 d3 d4 d5 d6 d7 x0 dir).toList = W4 at *
              have hW := HF4.out
              clear a0 q0 q1 q2 q3 q4 q5 q6 q7 p1 p2 hcn3 hT hcn2 HD HAD
              have a0 : W4.cell? ⟨B, 0, none⟩ = some (.pointer (some ⟨t, 0, none⟩)) := cell_of hW.2.1 0
              have q0 : W4.cell? ⟨D, 0, none⟩ = some (.int .i64 d0) := cell_of hW.2.2.2 0
              have r8 : W4.cell? ⟨B + 1, 8, none⟩ = some (.string x0) := cell_of hW.2.2.1 8
              have HB4 : Hid (Below w.heap.size w W4) := Lib.hid (by rw [hB]; exact hW.1)
              have HT4 := Lib.hid (H.out.mv ((Mv.refl H.out.rep).below HB4.out))
              have HOK : Hid (entryT T c cwd (bs s) = .ok ⟨k, bs x0, dir, lookT T k (bs x0)⟩) := Lib.hid (by
                unfold entryT
                rw [HSP.out]
                dsimp only
                rw [if_neg (by decide), if_neg (by
                  rintro (h1 | h1)
                  · simp at h1
                  · rw [last_of] at h1
                    exact HDD.out (Option.some.inj h1)), init_of, hg, if_neg (fun hh => hh rfl)]
                dsimp only
                rw [HM.out]
                dsimp only
                rw [if_neg (by rw [← HR2.out]; exact fun hh => hh rfl), last_of]
                rfl)
              clear hW
              cases hlk : lookT T k (bs x0) with
              | none =>
                have HC : Hid (Calls Try.prog 26 #[.pointer (some ⟨t, 0, none⟩), .int .i64 d0, .string x0] W4 fun e w' => e = .returned (.tuple #[.int .i64 0, .bool false]) ∧ W4 = w') := Lib.hid ((look_any HT4.out d0 x0).mono (by
                  rintro e w' ⟨rfl, hw⟩
                  refine ⟨?_, hw⟩
                  rw [← HMV.out.1, show lookT T (k : Int).toNat (bs x0) = none from hlk]; rfl))
                rw [hlk] at HOK
                have hq := HF4.out.2.2.1
                have r18 : W4.cell? ⟨B + 1, 18, none⟩ = some (.bool false) := cell_of hq 18
                have f18 : W4.frozen? ⟨B + 1, 18, none⟩ = false := frozen_of hq 18
                have h5 : (W4.setCell ⟨B + 1, 18, none⟩ (.bool false)).heap[B + 1]? = some (.cells (entC0 d0 d1 d2 d3 d4 d5 d6 d7 x0 dir) 77 (0, 0)) := heap_setCell_same hq (.bool false)
                have H5 := Lib.hid h5
                have HB5 : Hid (Below B w (W4.setCell ⟨B + 1, 18, none⟩ (.bool false))) := Lib.hid (HF4.out.1.setCell (Nat.le_succ B) _)
                clear hlk hq h5
                go_wp2_with fail
                refine HC.out.mono ?_
                rintro e wl ⟨rfl, rfl⟩
                go_upto_region 17 with fail
                clear a0 q0 r8 r18 f18
                generalize W4.setCell ⟨B + 1, 18, none⟩ (.bool false) = W8 at H5 HB5 ⊢
                have hL := range_of H5.out
                have l2 := sc_blk (P := Try.prog) H5.out 0 (entC0 d0 d1 d2 d3 d4 d5 d6 d7 x0 dir).toList (C' := (entC0 d0 d1 d2 d3 d4 d5 d6 d7 x0 dir)) rfl (Nat.le_refl _) entC0_one'
                go_wp2_with (refine wpList_load_mid rfl 77 _ rfl (B + 1) 0 rfl (entC0 d0 d1 d2 d3 d4 d5 d6 d7 x0 dir).toList _ hL rfl rfl rfl ?_)
                refine bodyPost_ret (ret_blk rfl rfl (heap_setRow_same H5.out) rfl rfl rfl) rfl ?_
                refine entPost_ok (to := none) HOK.out HM.out rfl ?_ (by rw [hB]; exact below_setRow HB5.out (by omega))
                obtain ⟨e0, e1, e2, e3, e4, e5, e6, e7⟩ := HMV.out
                rw [tx_bs, ← e0, ← e1, ← e2, ← e3, ← e4, ← e5, ← e6, ← e7]
                rfl
              | some j2 =>
                obtain ⟨m2, hm2⟩ := look_there H.out.snd hlk
                have HC : Hid (Calls Try.prog 26 #[.pointer (some ⟨t, 0, none⟩), .int .i64 d0, .string x0] W4 fun e w' => e = .returned (.tuple #[.int .i64 (j2 : Int), .bool true]) ∧ W4 = w') := Lib.hid ((look_any HT4.out d0 x0).mono (by
                  rintro e w' ⟨rfl, hw⟩
                  refine ⟨?_, hw⟩
                  rw [← HMV.out.1, show lookT T (k : Int).toNat (bs x0) = some j2 from hlk]; rfl))
                obtain ⟨g0, g1, g2, g3, g4, g5, g6, g7, hg2⟩ : ∃ g0 g1 g2 g3 g4 g5 g6 g7 : Int, infC T j2 m2 = #[.int .i64 g0, .int .i64 g1, .int .i64 g2, .int .i64 g3, .int .i64 g4, .int .i64 g5, .int .i64 g6, .int .i64 g7] := ⟨_, _, _, _, _, _, _, _, rfl⟩
                have hq := HF4.out.2.2.1
                have r18 : W4.cell? ⟨B + 1, 18, none⟩ = some (.bool false) := cell_of hq 18
                have f18 : W4.frozen? ⟨B + 1, 18, none⟩ = false := frozen_of hq 18
                have h5 : (W4.setCell ⟨B + 1, 18, none⟩ (.bool true)).heap[B + 1]? = some (.cells (entC1 d0 d1 d2 d3 d4 d5 d6 d7 x0 dir 0 0 0 0 0 0 0 0) 77 (0, 0)) := (heap_setCell_same hq (.bool true)).trans (by rw [put18])
                have HB5 : Hid (Below B w (W4.setCell ⟨B + 1, 18, none⟩ (.bool true))) := Lib.hid (HF4.out.1.setCell (Nat.le_succ B) _)
                have HT5 := Lib.hid (H.out.mv ((Mv.refl H.out.rep).below (by rw [hB]; exact HB5.out)))
                have HC2 : Hid (Calls Try.prog 14 #[.pointer (some ⟨t, 0, none⟩), .int .i64 (j2 : Int)] (W4.setCell ⟨B + 1, 18, none⟩ (.bool true)) fun e w' => e = .returned (.tuple #[.agg #[.int .i64 g0, .int .i64 g1, .int .i64 g2, .int .i64 g3, .int .i64 g4, .int .i64 g5, .int .i64 g6, .int .i64 g7], .bool true]) ∧ Below (W4.setCell ⟨B + 1, 18, none⟩ (.bool true)).heap.size (W4.setCell ⟨B + 1, 18, none⟩ (.bool true)) w') := Lib.hid ((stat_any HT5.out j2).mono (by
                  rintro e w' ⟨rfl, hbb⟩
                  have hT' : T (j2 : Int).toNat = some m2 := hm2
                  refine ⟨?_, hbb⟩
                  rw [hT', show statV T (j2 : Int).toNat = statV T j2 from rfl, ← stat_eq hm2, hg2]
                  rfl))
                have H5 := Lib.hid h5
                have HG2 := Lib.hid (infC_inj hg2)
                have HM2 := Lib.hid hm2
                rw [hlk] at HOK
                clear hlk hq h5 hm2 hg2
                go_wp2_with fail
                refine HC.out.mono ?_
                rintro e wl ⟨rfl, rfl⟩
                go_wp2_with fail
                refine HC2.out.mono ?_
                rintro e w6 ⟨rfl, hb6⟩
                have h6 : w6.heap[B + 1]? = some (.cells (entC1 d0 d1 d2 d3 d4 d5 d6 d7 x0 dir 0 0 0 0 0 0 0 0) 77 (0, 0)) := (hb6.block _ (lt_of_heap H5.out)).trans H5.out
                have HB6 : Hid (Below B w w6) := Lib.hid (HB5.out.trans (hb6.mono (by have := HB5.out.size; omega)))
                have r10 : w6.cell? ⟨B + 1, 10, none⟩ = some (.int .i64 0) := cell_of h6 10
                have f10 : w6.frozen? ⟨B + 1, 10, none⟩ = false := frozen_of h6 10
                have r11 : w6.cell? ⟨B + 1, 11, none⟩ = some (.int .i64 0) := cell_of h6 11
                have f11 : w6.frozen? ⟨B + 1, 11, none⟩ = false := frozen_of h6 11
                have r12 : w6.cell? ⟨B + 1, 12, none⟩ = some (.int .i64 0) := cell_of h6 12
                have f12 : w6.frozen? ⟨B + 1, 12, none⟩ = false := frozen_of h6 12
                have r13 : w6.cell? ⟨B + 1, 13, none⟩ = some (.int .i64 0) := cell_of h6 13
                have f13 : w6.frozen? ⟨B + 1, 13, none⟩ = false := frozen_of h6 13
                have r14 : w6.cell? ⟨B + 1, 14, none⟩ = some (.int .i64 0) := cell_of h6 14
                have f14 : w6.frozen? ⟨B + 1, 14, none⟩ = false := frozen_of h6 14
                have r15 : w6.cell? ⟨B + 1, 15, none⟩ = some (.int .i64 0) := cell_of h6 15
                have f15 : w6.frozen? ⟨B + 1, 15, none⟩ = false := frozen_of h6 15
                have r16 : w6.cell? ⟨B + 1, 16, none⟩ = some (.int .i64 0) := cell_of h6 16
                have f16 : w6.frozen? ⟨B + 1, 16, none⟩ = false := frozen_of h6 16
                have r17 : w6.cell? ⟨B + 1, 17, none⟩ = some (.int .i64 0) := cell_of h6 17
                have f17 : w6.frozen? ⟨B + 1, 17, none⟩ = false := frozen_of h6 17
                have h7 : ((((((((w6.setCell ⟨B + 1, 10, none⟩ (.int .i64 g0)).setCell ⟨B + 1, 11, none⟩ (.int .i64 g1)).setCell ⟨B + 1, 12, none⟩ (.int .i64 g2)).setCell ⟨B + 1, 13, none⟩ (.int .i64 g3)).setCell ⟨B + 1, 14, none⟩ (.int .i64 g4)).setCell ⟨B + 1, 15, none⟩ (.int .i64 g5)).setCell ⟨B + 1, 16, none⟩ (.int .i64 g6)).setCell ⟨B + 1, 17, none⟩ (.int .i64 g7)).heap[B + 1]? = some (.cells (entC1 d0 d1 d2 d3 d4 d5 d6 d7 x0 dir g0 g1 g2 g3 g4 g5 g6 g7) 77 (0, 0)) := heap_e8 h6
                have H7 := Lib.hid h7
                have HB7 := Lib.hid (below_e8 (g0 := g0) (g1 := g1) (g2 := g2) (g3 := g3) (g4 := g4) (g5 := g5) (g6 := g6) (g7 := g7) (Nat.le_succ B) HB6.out)
                clear hb6 h6 h7 a0 q0 r8 r18 f18
                go_upto_region 17 with fail
                clear r10 f10 r11 f11 r12 f12 r13 f13 r14 f14 r15 f15 r16 f16 r17 f17
                generalize ((((((((w6.setCell ⟨B + 1, 10, none⟩ (.int .i64 g0)).setCell ⟨B + 1, 11, none⟩ (.int .i64 g1)).setCell ⟨B + 1, 12, none⟩ (.int .i64 g2)).setCell ⟨B + 1, 13, none⟩ (.int .i64 g3)).setCell ⟨B + 1, 14, none⟩ (.int .i64 g4)).setCell ⟨B + 1, 15, none⟩ (.int .i64 g5)).setCell ⟨B + 1, 16, none⟩ (.int .i64 g6)).setCell ⟨B + 1, 17, none⟩ (.int .i64 g7)) = W8 at H7 HB7 ⊢
                have hL := range_of H7.out
                have l2 := sc_blk (P := Try.prog) H7.out 0 (entC1 d0 d1 d2 d3 d4 d5 d6 d7 x0 dir g0 g1 g2 g3 g4 g5 g6 g7).toList (C' := (entC1 d0 d1 d2 d3 d4 d5 d6 d7 x0 dir g0 g1 g2 g3 g4 g5 g6 g7)) rfl (Nat.le_refl _) entC1_one
                go_wp2_with (refine wpList_load_mid rfl 77 _ rfl (B + 1) 0 rfl (entC1 d0 d1 d2 d3 d4 d5 d6 d7 x0 dir g0 g1 g2 g3 g4 g5 g6 g7).toList _ hL rfl rfl rfl ?_)
                refine bodyPost_ret (ret_blk rfl rfl (heap_setRow_same H7.out) rfl rfl rfl) rfl ?_
                refine entPost_ok (to := some (j2, m2)) HOK.out HM.out ⟨m2, HM2.out, rfl⟩ ?_ (by rw [hB]; exact below_setRow HB7.out (by omega))
                obtain ⟨e0, e1, e2, e3, e4, e5, e6, e7⟩ := HMV.out
                obtain ⟨i0, i1, i2, i3, i4, i5, i6, i7⟩ := HG2.out
                rw [tx_bs, ← e0, ← e1, ← e2, ← e3, ← e4, ← e5, ← e6, ← e7, ← i0, ← i1, ← i2, ← i3, ← i4, ← i5, ← i6, ← i7]
                rfl
            · have hz1 : (r2 != 0) = true := by simpa using hz
              have HE : Hid (entryT T c cwd (bs s) = .error r2) := Lib.hid (by
                unfold entryT
                rw [HSP.out]
                dsimp only
                rw [if_neg (by decide), if_neg (by
                  rintro (h1 | h1)
                  · simp at h1
                  · rw [last_of] at h1
                    exact HDD.out (Option.some.inj h1)), init_of, hg, if_neg (fun hh => hh rfl)]
                dsimp only
                rw [HM.out]
                dsimp only
                rw [if_pos (by rw [← HR2.out]; exact hz), HR2.out])
              have hL := range_of HF3.out.2.2.1
              have l2 := sc_blk (P := Try.prog) HF3.out.2.2.1 0 zeroE.toList (C' := zeroE) rfl (Nat.le_refl _) (by decide)
              go_wp2_with (refine wpList_load_mid rfl 77 _ rfl (B + 1) 0 rfl zeroE.toList _ hL rfl rfl rfl ?_)
              refine bodyPost_ret (ret_blk rfl rfl (heap_setRow_same HF3.out.2.2.1) rfl rfl rfl) rfl ?_
              exact entPost_err HE.out (by rw [hB]; exact below_setRow HF3.out.1 (by omega))
          · have hr1 : (r == 0) = false := by simpa using hr
            have hr2 : (r != 0) = true := by simpa using hr
            have HE : Hid (entryT T c cwd (bs s) = .error r) := Lib.hid (by
              unfold entryT
              rw [HSP.out]
              dsimp only
              rw [if_neg (by decide), if_neg (by
                rintro (h1 | h1)
                · simp at h1
                · rw [last_of] at h1
                  exact HDD.out (Option.some.inj h1)), init_of, hg, if_pos hr])
            have hL := range_of HF.out.2.2.1
            have l2 := sc_blk (P := Try.prog) HF.out.2.2.1 0 zeroE.toList (C' := zeroE) rfl (Nat.le_refl _) (by decide)
            go_wp2_with (refine wpList_load_mid rfl 77 _ rfl (B + 1) 0 rfl zeroE.toList _ hL rfl rfl rfl ?_)
            refine bodyPost_ret (ret_blk rfl rfl (heap_setRow_same HF.out.2.2.1) rfl rfl rfl) rfl ?_
            exact entPost_err HE.out (by rw [hB]; exact below_setRow HF.out.1 (by omega))
        · have HF := HFK _ _ (below_set8 (v0 := .int .i64 d0) (v1 := .int .i64 d1) (v2 := .int .i64 d2) (v3 := .int .i64 d3) (v4 := .int .i64 d4) (v5 := .int .i64 d5) (v6 := .int .i64 d6) (v7 := .int .i64 d7) hbz (Nat.le_refl W0.heap.size)) (heap_set8 HQD.out)
          have HDS : Hid (W0.heap.size ≤ W0.heap.size) := Lib.hid (Nat.le_refl W0.heap.size)
          have HB0W := Lib.hid (below_set8 (v0 := .int .i64 d0) (v1 := .int .i64 d1) (v2 := .int .i64 d2) (v3 := .int .i64 d3) (v4 := .int .i64 d4) (v5 := .int .i64 d5) (v6 := .int .i64 d6) (v7 := .int .i64 d7) hbz (Nat.le_refl W0.heap.size))
          clear hb1 hbz hDlt HQD z0 y0 z1 y1 z2 y2 z3 y3 z4 y4 z5 y5 z6 y6 z7 y7
          generalize ((((((((w2.setCell ⟨W0.heap.size, 0, none⟩ (.int .i64 d0)).setCell ⟨W0.heap.size, 1, none⟩ (.int .i64 d1)).setCell ⟨W0.heap.size, 2, none⟩ (.int .i64 d2)).setCell ⟨W0.heap.size, 3, none⟩ (.int .i64 d3)).setCell ⟨W0.heap.size, 4, none⟩ (.int .i64 d4)).setCell ⟨W0.heap.size, 5, none⟩ (.int .i64 d5)).setCell ⟨W0.heap.size, 6, none⟩ (.int .i64 d6)).setCell ⟨W0.heap.size, 7, none⟩ (.int .i64 d7)) = W at *
          generalize hDW : W0.heap.size = D at HF HDS ⊢
          by_cases hr : r = 0
          · subst hr
            obtain ⟨m, hm, hmv⟩ := HM0.out rfl
            have hW := HF.out
            have a0 : W.cell? ⟨B, 0, none⟩ = some (.pointer (some ⟨t, 0, none⟩)) := cell_of hW.2.1 0
            have a1 : W.cell? ⟨B, 1, none⟩ = some (.int .i64 cwd) := cell_of hW.2.1 1
            have a2 : W.cell? ⟨B, 2, none⟩ = some (.int .i64 c.real) := cell_of hW.2.1 2
            have a3 : W.cell? ⟨B, 3, none⟩ = some (.int .i64 c.eff) := cell_of hW.2.1 3
            have a4 : W.cell? ⟨B, 4, none⟩ = some (.int .i64 c.saved) := cell_of hW.2.1 4
            have a5 : W.cell? ⟨B, 5, none⟩ = some (.int .i64 c.group) := cell_of hW.2.1 5
            have a6 : W.cell? ⟨B, 6, none⟩ = some (.int .i64 c.eg) := cell_of hW.2.1 6
            have q0 : W.cell? ⟨D, 0, none⟩ = some (.int .i64 d0) := cell_of hW.2.2.2.2.1 0
            have q1 : W.cell? ⟨D, 1, none⟩ = some (.int .i64 d1) := cell_of hW.2.2.2.2.1 1
            have q2 : W.cell? ⟨D, 2, none⟩ = some (.int .i64 d2) := cell_of hW.2.2.2.2.1 2
            have q3 : W.cell? ⟨D, 3, none⟩ = some (.int .i64 d3) := cell_of hW.2.2.2.2.1 3
            have q4 : W.cell? ⟨D, 4, none⟩ = some (.int .i64 d4) := cell_of hW.2.2.2.2.1 4
            have q5 : W.cell? ⟨D, 5, none⟩ = some (.int .i64 d5) := cell_of hW.2.2.2.2.1 5
            have q6 : W.cell? ⟨D, 6, none⟩ = some (.int .i64 d6) := cell_of hW.2.2.2.2.1 6
            have q7 : W.cell? ⟨D, 7, none⟩ = some (.int .i64 d7) := cell_of hW.2.2.2.2.1 7
            clear hW
            go_wp2_with fail
            refine (wenters_any t cwd c _ _ _ _ _ _ _ _ _).mono ?_
            rintro e w3 ⟨r2, rfl, hr2, hb⟩
            have HF3 := HFK w3 D (HB0W.out.trans (hb.mono HB0W.out.size)) ((hb.block _ (lt_of_heap HF.out.2.2.2.2.1)).trans HF.out.2.2.2.2.1)
            have HB3 := Lib.hid (HB0W.out.trans (hb.mono HB0W.out.size))
            have HMV := Lib.hid (infC_inj hmv)
            have HR2 : Hid (r2 = entersE m c) := Lib.hid (by
              rw [hr2]
              obtain ⟨e0, e1, e2, e3, e4, _, _, _⟩ := HMV.out
              rw [← e1, ← e2, ← e3, ← e4]
              rfl)
            have HM := Lib.hid hm
            clear a0 a1 a2 a3 a4 a5 a6 q0 q1 q2 q3 q4 q5 q6 q7 hr2 hmv hm hb
            by_cases hz : r2 = 0
            · subst hz
              have hW := HF3.out
              have a0 : w3.cell? ⟨B, 0, none⟩ = some (.pointer (some ⟨t, 0, none⟩)) := cell_of hW.2.1 0
              have q0 : w3.cell? ⟨D, 0, none⟩ = some (.int .i64 d0) := cell_of hW.2.2.2.2.1 0
              have q1 : w3.cell? ⟨D, 1, none⟩ = some (.int .i64 d1) := cell_of hW.2.2.2.2.1 1
              have q2 : w3.cell? ⟨D, 2, none⟩ = some (.int .i64 d2) := cell_of hW.2.2.2.2.1 2
              have q3 : w3.cell? ⟨D, 3, none⟩ = some (.int .i64 d3) := cell_of hW.2.2.2.2.1 3
              have q4 : w3.cell? ⟨D, 4, none⟩ = some (.int .i64 d4) := cell_of hW.2.2.2.2.1 4
              have q5 : w3.cell? ⟨D, 5, none⟩ = some (.int .i64 d5) := cell_of hW.2.2.2.2.1 5
              have q6 : w3.cell? ⟨D, 6, none⟩ = some (.int .i64 d6) := cell_of hW.2.2.2.2.1 6
              have q7 : w3.cell? ⟨D, 7, none⟩ = some (.int .i64 d7) := cell_of hW.2.2.2.2.1 7
              have p1 : w3.cell? ⟨P, 1, none⟩ = some (.slice (some ⟨bn, on, none⟩) (l.length + 1) cap) := cell_of hW.2.2.2.1 1
              have p2 : w3.cell? ⟨P, 2, none⟩ = some (.bool dir) := cell_of hW.2.2.2.1 2
              have hcn3 := hW.2.2.2.2.2
              clear hW
              have hT : w3.there (B + 1) 0 19 := there_of HF3.out.2.2.1
              have hi7 : ((l.length : Nat) : Int) < ((l.length : Nat) : Int) + 1 := by omega
              go_wp2_with fail
              go_still_tail 9, (by kernel_rfl)
              refine wpList_store_mid rfl 77 _ _ rfl (B + 1) 0 (entC0 d0 d1 d2 d3 d4 d5 d6 d7 x0 dir) rfl rfl hT rfl entC0_one ?_
              have HF4 : Hid (Below B w (World.setCells { w3 with drawn := w3.drawn + 1 } (B + 1) 0 (entC0 d0 d1 d2 d3 d4 d5 d6 d7 x0 dir).toList) ∧ (World.setCells { w3 with drawn := w3.drawn + 1 } (B + 1) 0 (entC0 d0 d1 d2 d3 d4 d5 d6 d7 x0 dir).toList).heap[B]? = some (.cells (askC t cwd c) 74 (0, 0)) ∧ (World.setCells { w3 with drawn := w3.drawn + 1 } (B + 1) 0 (entC0 d0 d1 d2 d3 d4 d5 d6 d7 x0 dir).toList).heap[B + 1]? = some (.cells (entC0 d0 d1 d2 d3 d4 d5 d6 d7 x0 dir) 77 (0, 0)) ∧ (World.setCells { w3 with drawn := w3.drawn + 1 } (B + 1) 0 (entC0 d0 d1 d2 d3 d4 d5 d6 d7 x0 dir).toList).heap[D]? = some (.cells #[.int .i64 d0, .int .i64 d1, .int .i64 d2, .int .i64 d3, .int .i64 d4, .int .i64 d5, .int .i64 d6, .int .i64 d7] 35 (0, 0))) := Lib.hid ⟨below_setCells (by omega) _ _ _ HF3.out.1.drew, (heap_setCells_other (by omega) _ _ _).trans HF3.out.2.1, (heap_setCells _ 0 _ { w3 with drawn := w3.drawn + 1 } HF3.out.2.2.1).trans (by rw [put_all]), (heap_setCells_other (by have := HDS.out; omega) _ _ _).trans HF3.out.2.2.2.2.1⟩
              generalize World.setCells { w3 with drawn := w3.drawn + 1 } (B + 1) 0 (entC0 d0 d1 d2 d3 d4 d5 d6 d7 x0 dir).toList = W4 at *
              have hW := HF4.out
              clear a0 q0 q1 q2 q3 q4 q5 q6 q7 p1 p2 hcn3 hT hcn2 HD HAD
              have a0 : W4.cell? ⟨B, 0, none⟩ = some (.pointer (some ⟨t, 0, none⟩)) := cell_of hW.2.1 0
              have q0 : W4.cell? ⟨D, 0, none⟩ = some (.int .i64 d0) := cell_of hW.2.2.2 0
              have r8 : W4.cell? ⟨B + 1, 8, none⟩ = some (.string x0) := cell_of hW.2.2.1 8
              have HB4 : Hid (Below w.heap.size w W4) := Lib.hid (by rw [hB]; exact hW.1)
              have HT4 := Lib.hid (H.out.mv ((Mv.refl H.out.rep).below HB4.out))
              have HOK : Hid (entryT T c cwd (bs s) = .ok ⟨k, bs x0, dir, lookT T k (bs x0)⟩) := Lib.hid (by
                unfold entryT
                rw [HSP.out]
                dsimp only
                rw [if_neg (by decide), if_neg (by
                  rintro (h1 | h1)
                  · simp at h1
                  · rw [last_of] at h1
                    exact HDD.out (Option.some.inj h1)), init_of, hg, if_neg (fun hh => hh rfl)]
                dsimp only
                rw [HM.out]
                dsimp only
                rw [if_neg (by rw [← HR2.out]; exact fun hh => hh rfl), last_of]
                rfl)
              clear hW
              cases hlk : lookT T k (bs x0) with
              | none =>
                have HC : Hid (Calls Try.prog 26 #[.pointer (some ⟨t, 0, none⟩), .int .i64 d0, .string x0] W4 fun e w' => e = .returned (.tuple #[.int .i64 0, .bool false]) ∧ W4 = w') := Lib.hid ((look_any HT4.out d0 x0).mono (by
                  rintro e w' ⟨rfl, hw⟩
                  refine ⟨?_, hw⟩
                  rw [← HMV.out.1, show lookT T (k : Int).toNat (bs x0) = none from hlk]; rfl))
                rw [hlk] at HOK
                have hq := HF4.out.2.2.1
                have r18 : W4.cell? ⟨B + 1, 18, none⟩ = some (.bool false) := cell_of hq 18
                have f18 : W4.frozen? ⟨B + 1, 18, none⟩ = false := frozen_of hq 18
                have h5 : (W4.setCell ⟨B + 1, 18, none⟩ (.bool false)).heap[B + 1]? = some (.cells (entC0 d0 d1 d2 d3 d4 d5 d6 d7 x0 dir) 77 (0, 0)) := heap_setCell_same hq (.bool false)
                have H5 := Lib.hid h5
                have HB5 : Hid (Below B w (W4.setCell ⟨B + 1, 18, none⟩ (.bool false))) := Lib.hid (HF4.out.1.setCell (Nat.le_succ B) _)
                clear hlk hq h5
                go_wp2_with fail
                refine HC.out.mono ?_
                rintro e wl ⟨rfl, rfl⟩
                go_upto_region 17 with fail
                clear a0 q0 r8 r18 f18
                generalize W4.setCell ⟨B + 1, 18, none⟩ (.bool false) = W8 at H5 HB5 ⊢
                have hL := range_of H5.out
                have l2 := sc_blk (P := Try.prog) H5.out 0 (entC0 d0 d1 d2 d3 d4 d5 d6 d7 x0 dir).toList (C' := (entC0 d0 d1 d2 d3 d4 d5 d6 d7 x0 dir)) rfl (Nat.le_refl _) entC0_one'
                go_wp2_with (refine wpList_load_mid rfl 77 _ rfl (B + 1) 0 rfl (entC0 d0 d1 d2 d3 d4 d5 d6 d7 x0 dir).toList _ hL rfl rfl rfl ?_)
                refine bodyPost_ret (ret_blk rfl rfl (heap_setRow_same H5.out) rfl rfl rfl) rfl ?_
                refine entPost_ok (to := none) HOK.out HM.out rfl ?_ (by rw [hB]; exact below_setRow HB5.out (by omega))
                obtain ⟨e0, e1, e2, e3, e4, e5, e6, e7⟩ := HMV.out
                rw [tx_bs, ← e0, ← e1, ← e2, ← e3, ← e4, ← e5, ← e6, ← e7]
                rfl
              | some j2 =>
                obtain ⟨m2, hm2⟩ := look_there H.out.snd hlk
                have HC : Hid (Calls Try.prog 26 #[.pointer (some ⟨t, 0, none⟩), .int .i64 d0, .string x0] W4 fun e w' => e = .returned (.tuple #[.int .i64 (j2 : Int), .bool true]) ∧ W4 = w') := Lib.hid ((look_any HT4.out d0 x0).mono (by
                  rintro e w' ⟨rfl, hw⟩
                  refine ⟨?_, hw⟩
                  rw [← HMV.out.1, show lookT T (k : Int).toNat (bs x0) = some j2 from hlk]; rfl))
                obtain ⟨g0, g1, g2, g3, g4, g5, g6, g7, hg2⟩ : ∃ g0 g1 g2 g3 g4 g5 g6 g7 : Int, infC T j2 m2 = #[.int .i64 g0, .int .i64 g1, .int .i64 g2, .int .i64 g3, .int .i64 g4, .int .i64 g5, .int .i64 g6, .int .i64 g7] := ⟨_, _, _, _, _, _, _, _, rfl⟩
                have hq := HF4.out.2.2.1
                have r18 : W4.cell? ⟨B + 1, 18, none⟩ = some (.bool false) := cell_of hq 18
                have f18 : W4.frozen? ⟨B + 1, 18, none⟩ = false := frozen_of hq 18
                have h5 : (W4.setCell ⟨B + 1, 18, none⟩ (.bool true)).heap[B + 1]? = some (.cells (entC1 d0 d1 d2 d3 d4 d5 d6 d7 x0 dir 0 0 0 0 0 0 0 0) 77 (0, 0)) := (heap_setCell_same hq (.bool true)).trans (by rw [put18])
                have HB5 : Hid (Below B w (W4.setCell ⟨B + 1, 18, none⟩ (.bool true))) := Lib.hid (HF4.out.1.setCell (Nat.le_succ B) _)
                have HT5 := Lib.hid (H.out.mv ((Mv.refl H.out.rep).below (by rw [hB]; exact HB5.out)))
                have HC2 : Hid (Calls Try.prog 14 #[.pointer (some ⟨t, 0, none⟩), .int .i64 (j2 : Int)] (W4.setCell ⟨B + 1, 18, none⟩ (.bool true)) fun e w' => e = .returned (.tuple #[.agg #[.int .i64 g0, .int .i64 g1, .int .i64 g2, .int .i64 g3, .int .i64 g4, .int .i64 g5, .int .i64 g6, .int .i64 g7], .bool true]) ∧ Below (W4.setCell ⟨B + 1, 18, none⟩ (.bool true)).heap.size (W4.setCell ⟨B + 1, 18, none⟩ (.bool true)) w') := Lib.hid ((stat_any HT5.out j2).mono (by
                  rintro e w' ⟨rfl, hbb⟩
                  have hT' : T (j2 : Int).toNat = some m2 := hm2
                  refine ⟨?_, hbb⟩
                  rw [hT', show statV T (j2 : Int).toNat = statV T j2 from rfl, ← stat_eq hm2, hg2]
                  rfl))
                have H5 := Lib.hid h5
                have HG2 := Lib.hid (infC_inj hg2)
                have HM2 := Lib.hid hm2
                rw [hlk] at HOK
                clear hlk hq h5 hm2 hg2
                go_wp2_with fail
                refine HC.out.mono ?_
                rintro e wl ⟨rfl, rfl⟩
                go_wp2_with fail
                refine HC2.out.mono ?_
                rintro e w6 ⟨rfl, hb6⟩
                have h6 : w6.heap[B + 1]? = some (.cells (entC1 d0 d1 d2 d3 d4 d5 d6 d7 x0 dir 0 0 0 0 0 0 0 0) 77 (0, 0)) := (hb6.block _ (lt_of_heap H5.out)).trans H5.out
                have HB6 : Hid (Below B w w6) := Lib.hid (HB5.out.trans (hb6.mono (by have := HB5.out.size; omega)))
                have r10 : w6.cell? ⟨B + 1, 10, none⟩ = some (.int .i64 0) := cell_of h6 10
                have f10 : w6.frozen? ⟨B + 1, 10, none⟩ = false := frozen_of h6 10
                have r11 : w6.cell? ⟨B + 1, 11, none⟩ = some (.int .i64 0) := cell_of h6 11
                have f11 : w6.frozen? ⟨B + 1, 11, none⟩ = false := frozen_of h6 11
                have r12 : w6.cell? ⟨B + 1, 12, none⟩ = some (.int .i64 0) := cell_of h6 12
                have f12 : w6.frozen? ⟨B + 1, 12, none⟩ = false := frozen_of h6 12
                have r13 : w6.cell? ⟨B + 1, 13, none⟩ = some (.int .i64 0) := cell_of h6 13
                have f13 : w6.frozen? ⟨B + 1, 13, none⟩ = false := frozen_of h6 13
                have r14 : w6.cell? ⟨B + 1, 14, none⟩ = some (.int .i64 0) := cell_of h6 14
                have f14 : w6.frozen? ⟨B + 1, 14, none⟩ = false := frozen_of h6 14
                have r15 : w6.cell? ⟨B + 1, 15, none⟩ = some (.int .i64 0) := cell_of h6 15
                have f15 : w6.frozen? ⟨B + 1, 15, none⟩ = false := frozen_of h6 15
                have r16 : w6.cell? ⟨B + 1, 16, none⟩ = some (.int .i64 0) := cell_of h6 16
                have f16 : w6.frozen? ⟨B + 1, 16, none⟩ = false := frozen_of h6 16
                have r17 : w6.cell? ⟨B + 1, 17, none⟩ = some (.int .i64 0) := cell_of h6 17
                have f17 : w6.frozen? ⟨B + 1, 17, none⟩ = false := frozen_of h6 17
                have h7 : ((((((((w6.setCell ⟨B + 1, 10, none⟩ (.int .i64 g0)).setCell ⟨B + 1, 11, none⟩ (.int .i64 g1)).setCell ⟨B + 1, 12, none⟩ (.int .i64 g2)).setCell ⟨B + 1, 13, none⟩ (.int .i64 g3)).setCell ⟨B + 1, 14, none⟩ (.int .i64 g4)).setCell ⟨B + 1, 15, none⟩ (.int .i64 g5)).setCell ⟨B + 1, 16, none⟩ (.int .i64 g6)).setCell ⟨B + 1, 17, none⟩ (.int .i64 g7)).heap[B + 1]? = some (.cells (entC1 d0 d1 d2 d3 d4 d5 d6 d7 x0 dir g0 g1 g2 g3 g4 g5 g6 g7) 77 (0, 0)) := heap_e8 h6
                have H7 := Lib.hid h7
                have HB7 := Lib.hid (below_e8 (g0 := g0) (g1 := g1) (g2 := g2) (g3 := g3) (g4 := g4) (g5 := g5) (g6 := g6) (g7 := g7) (Nat.le_succ B) HB6.out)
                clear hb6 h6 h7 a0 q0 r8 r18 f18
                go_upto_region 17 with fail
                clear r10 f10 r11 f11 r12 f12 r13 f13 r14 f14 r15 f15 r16 f16 r17 f17
                generalize ((((((((w6.setCell ⟨B + 1, 10, none⟩ (.int .i64 g0)).setCell ⟨B + 1, 11, none⟩ (.int .i64 g1)).setCell ⟨B + 1, 12, none⟩ (.int .i64 g2)).setCell ⟨B + 1, 13, none⟩ (.int .i64 g3)).setCell ⟨B + 1, 14, none⟩ (.int .i64 g4)).setCell ⟨B + 1, 15, none⟩ (.int .i64 g5)).setCell ⟨B + 1, 16, none⟩ (.int .i64 g6)).setCell ⟨B + 1, 17, none⟩ (.int .i64 g7)) = W8 at H7 HB7 ⊢
                have hL := range_of H7.out
                have l2 := sc_blk (P := Try.prog) H7.out 0 (entC1 d0 d1 d2 d3 d4 d5 d6 d7 x0 dir g0 g1 g2 g3 g4 g5 g6 g7).toList (C' := (entC1 d0 d1 d2 d3 d4 d5 d6 d7 x0 dir g0 g1 g2 g3 g4 g5 g6 g7)) rfl (Nat.le_refl _) entC1_one
                go_wp2_with (refine wpList_load_mid rfl 77 _ rfl (B + 1) 0 rfl (entC1 d0 d1 d2 d3 d4 d5 d6 d7 x0 dir g0 g1 g2 g3 g4 g5 g6 g7).toList _ hL rfl rfl rfl ?_)
                refine bodyPost_ret (ret_blk rfl rfl (heap_setRow_same H7.out) rfl rfl rfl) rfl ?_
                refine entPost_ok (to := some (j2, m2)) HOK.out HM.out ⟨m2, HM2.out, rfl⟩ ?_ (by rw [hB]; exact below_setRow HB7.out (by omega))
                obtain ⟨e0, e1, e2, e3, e4, e5, e6, e7⟩ := HMV.out
                obtain ⟨i0, i1, i2, i3, i4, i5, i6, i7⟩ := HG2.out
                rw [tx_bs, ← e0, ← e1, ← e2, ← e3, ← e4, ← e5, ← e6, ← e7, ← i0, ← i1, ← i2, ← i3, ← i4, ← i5, ← i6, ← i7]
                rfl
            · have hz1 : (r2 != 0) = true := by simpa using hz
              have HE : Hid (entryT T c cwd (bs s) = .error r2) := Lib.hid (by
                unfold entryT
                rw [HSP.out]
                dsimp only
                rw [if_neg (by decide), if_neg (by
                  rintro (h1 | h1)
                  · simp at h1
                  · rw [last_of] at h1
                    exact HDD.out (Option.some.inj h1)), init_of, hg, if_neg (fun hh => hh rfl)]
                dsimp only
                rw [HM.out]
                dsimp only
                rw [if_pos (by rw [← HR2.out]; exact hz), HR2.out])
              have hL := range_of HF3.out.2.2.1
              have l2 := sc_blk (P := Try.prog) HF3.out.2.2.1 0 zeroE.toList (C' := zeroE) rfl (Nat.le_refl _) (by decide)
              go_wp2_with (refine wpList_load_mid rfl 77 _ rfl (B + 1) 0 rfl zeroE.toList _ hL rfl rfl rfl ?_)
              refine bodyPost_ret (ret_blk rfl rfl (heap_setRow_same HF3.out.2.2.1) rfl rfl rfl) rfl ?_
              exact entPost_err HE.out (by rw [hB]; exact below_setRow HF3.out.1 (by omega))
          · have hr1 : (r == 0) = false := by simpa using hr
            have hr2 : (r != 0) = true := by simpa using hr
            have HE : Hid (entryT T c cwd (bs s) = .error r) := Lib.hid (by
              unfold entryT
              rw [HSP.out]
              dsimp only
              rw [if_neg (by decide), if_neg (by
                rintro (h1 | h1)
                · simp at h1
                · rw [last_of] at h1
                  exact HDD.out (Option.some.inj h1)), init_of, hg, if_pos hr])
            have hL := range_of HF.out.2.2.1
            have l2 := sc_blk (P := Try.prog) HF.out.2.2.1 0 zeroE.toList (C' := zeroE) rfl (Nat.le_refl _) (by decide)
            go_wp2_with (refine wpList_load_mid rfl 77 _ rfl (B + 1) 0 rfl zeroE.toList _ hL rfl rfl rfl ?_)
            refine bodyPost_ret (ret_blk rfl rfl (heap_setRow_same HF.out.2.2.1) rfl rfl rfl) rfl ?_
            exact entPost_err HE.out (by rw [hB]; exact below_setRow HF.out.1 (by omega))
  · have he1 : (err != 0) = true := by simpa using he
    have hs1 : w.heap.size + 1 < w1.heap.size := hlt
    have hs2 : w.heap.size < w1.heap.size := by omega
    have hR : (w1.alloc (.cells #[.bool abs, .slice a l.length cap, .bool dir] 115)).heap[w.heap.size + 1]? = some (.cells zeroE 77 (0, 0)) := (alloc_heap_old w1 _ (by omega)).trans b1
    have hL := range_of hR
    have l2 := sc_blk (P := Try.prog) hR 0 zeroE.toList (C' := zeroE) rfl (Nat.le_refl _) (by decide)
    have HRR := Lib.hid hR
    have HE := Lib.hid he
    clear hown hb hsp b0 b1 hbb hrow hlen hlt hR he
    go_wp2_with (refine wpList_load_mid rfl 77 _ rfl (w.heap.size + 1) 0 rfl zeroE.toList _ hL rfl rfl rfl ?_)
    refine bodyPost_ret (ret_blk rfl rfl (heap_setRow_same HRR.out) rfl rfl rfl) rfl ?_
    refine entPost_err ?_ (below_setRow (belowA HBB.out _) (by omega))
    unfold entryT
    rw [HSP.out]
    dsimp only
    rw [if_pos HE.out]
end Go.Proofs.Ytafonmnfeibaiaa
namespace Go.Proofs.Ytafonmnfeibaiaa
open Go.RowKit

/-! ### walk: find and entry, as numbers; Find and Parent -/
def cred (c : Cr) : Value := .agg #[.int .i64 c.real, .int .i64 c.eff, .int .i64 c.saved, .int .i64 c.group, .int .i64 c.eg]
theorem wfind_ints {w : World} {t : Nat} {S : Tab} {T : IT.Tr} (h : Tre w t S T) (cwd : Int) (c : Cr) (s : ByteArray) {k : Nat} {r : Int} (hg : findT T c cwd (bs s) = (k, r)) :
    ∃ d0 d1 d2 d3 d4 d5 d6 d7 : Int, (r = 0 → ∃ m, T k = some m ∧ infC T k m = #[.int .i64 d0, .int .i64 d1, .int .i64 d2, .int .i64 d3, .int .i64 d4, .int .i64 d5, .int .i64 d6, .int .i64 d7]) ∧ (r ≠ 0 → d0 = 0) ∧ ∀ W', Below w.heap.size w W' → Calls Try.prog 40 #[ask t cwd c, .string s] W' fun e w' => e = .returned (.tuple #[.agg #[.int .i64 d0, .int .i64 d1, .int .i64 d2, .int .i64 d3, .int .i64 d4, .int .i64 d5, .int .i64 d6, .int .i64 d7], .int .i64 r]) ∧ Below W'.heap.size W' w' := by
  have HD : ∀ W', Below w.heap.size w W' → Calls Try.prog 40 #[ask t cwd c, .string s] W' (FindPost T c cwd s W') := fun W' hb => wfind_any (h.mv ((Mv.refl h.rep).below hb)) cwd c s
  by_cases hr : r = 0
  · subst hr
    have hgo := find_there (c := c) (cwd := cwd) (s := bs s) h.snd
    rw [hg] at hgo
    obtain ⟨m, hm⟩ := hgo rfl
    refine ⟨k, m.kind, m.mode, m.owner, m.group, (IT.lnk T k : Nat), (m.data.length + m.names.length : Nat), m.tty, fun _ => ⟨m, hm, rfl⟩, fun hh => absurd rfl hh, fun W' hb => (HD W' hb).mono ?_⟩
    rintro e w' ⟨v, rfl, hv, hb2⟩
    rw [hg] at hv ⊢
    refine ⟨?_, hb2⟩
    rw [hv, if_pos rfl, ← stat_eq hm]
    rfl
  · refine ⟨0, 0, 0, 0, 0, 0, 0, 0, fun h0 => absurd h0 hr, fun _ => rfl, fun W' hb => (HD W' hb).mono ?_⟩
    rintro e w' ⟨v, rfl, hv, hb2⟩
    rw [hg] at hv ⊢
    refine ⟨?_, hb2⟩
    rw [hv, if_neg hr]
    rfl
theorem wentry_bad {w : World} {t : Nat} {S : Tab} {T : IT.Tr} (h : Tre w t S T) (cwd : Int) (c : Cr) (s : ByteArray) {r : Int} (hg : entryT T c cwd (bs s) = .error r) (W' : World) (hb : Below w.heap.size w W') :
    Calls Try.prog 37 #[ask t cwd c, .string s] W' fun e w' => e = .returned (.tuple #[.agg zeroE, .int .i64 r]) ∧ Below W'.heap.size W' w' :=
  (wentry_any (h.mv ((Mv.refl h.rep).below hb)) cwd c s).mono (by
    rintro e w' ⟨hb2, hp⟩
    rw [hg] at hp
    exact ⟨hp, hb2⟩)
theorem wentry_good {w : World} {t : Nat} {S : Tab} {T : IT.Tr} (h : Tre w t S T) (cwd : Int) (c : Cr) (s : ByteArray) {x : Ent} (hg : entryT T c cwd (bs s) = .ok x) (W' : World) (hb : Below w.heap.size w W') :
    Calls Try.prog 37 #[ask t cwd c, .string s] W' fun e w' => (∃ m to, T x.dir = some m ∧ (match x.to with
        | none => to = none
        | some k => ∃ q, T k = some q ∧ to = some (k, q)) ∧ e = .returned (.tuple #[.agg (entC T x.dir m (tx x.name) x.must to), .int .i64 0])) ∧ Below W'.heap.size W' w' :=
  (wentry_any (h.mv ((Mv.refl h.rep).below hb)) cwd c s).mono (by
    rintro e w' ⟨hb2, hp⟩
    rw [hg] at hp
    exact ⟨hp, hb2⟩)
set_option maxRecDepth 100000 in
set_option maxHeartbeats 4000000 in
theorem walkFind_any {w : World} {t : Nat} {S : Tab} {T : IT.Tr} (h : Tre w t S T) (cwd : Int) (c : Cr) (s : ByteArray) {k : Nat} {r : Int} (hg : findT T c cwd (bs s) = (k, r)) :
    Calls Try.prog 13 #[.pointer (some ⟨t, 0, none⟩), .int .i64 cwd, cred c, .string s] w fun e w' => e = .returned (.tuple #[.int .i64 (if r = 0 then k else 0 : Nat), .int .i64 r]) ∧ Below w.heap.size w w' := by
  obtain ⟨d0, d1, d2, d3, d4, d5, d6, d7, h0, h1, HF⟩ := wfind_ints h cwd c s hg
  have hd : d0 = ((if r = 0 then k else 0 : Nat) : Int) := by
    by_cases hr : r = 0
    · obtain ⟨m, _, hm⟩ := h0 hr
      rw [if_pos hr]
      exact ((infC_inj hm).1).symm
    · rw [if_neg hr]
      exact h1 hr
  rw [← hd]
  clear h0 h1 hd
  have HC := Lib.hid HF
  clear HF h
  unfold cred
  go_enter Try.func13, Try.ntmps13
  go_wp2_with fail
  refine (HC.out _ ((Below.refl _ _).alloc (Nat.le_refl _) _)).mono ?_
  rintro e w2 ⟨rfl, hb⟩
  have HB : Hid (Below w.heap.size w w2) := Lib.hid (((Below.refl _ _).alloc (Nat.le_refl _) _).trans (hb.mono (by rw [alloc_size]; omega)))
  clear hb HC
  go_wp2
  go_ret2
  exact ⟨rfl, belowA HB.out _⟩
end Go.Proofs.Ytafonmnfeibaiaa
