/-
  LoginChecks's row and card.
-/
import Derived.Test.YtlhlehdajkoogaaGreatDoorAll3
import Derived.Test.YtlhlehdajkoogaaGreatDoorAll2
import Derived.Deep.Cut
import Derived.Deep.CutRange
import Derived.Deep.CutBlock
import Derived.SliceStrings
import Derived.ChangeSlices
import Derived.Carry
import Derived.Deep.Slices
import Derived.Lib.SmallJoins
import Derived.ChangeArms
import Derived.SizedLaws
import Derived.DataReads
import Derived.Test.YtlhlehdajkoogaaGreatDoorRows
import Derived.Test.YtlhlehdajkoogaaGreatDoorAll0
import Derived.Test.YtlhlehdajkoogaaGreatDoorAll1
import Derived.OpenShut
import Derived.LaidMore
import Derived.Test.YtlhlehdajkoogaaGreatDoorCards
import Derived.Test.YtlhlehdajkoogaaGreatDoorTie
import Derived.WalkKit
import Derived.ProofKit
import Derived.ShutString
import Derived.ChangeOld
import Derived.Below
import Derived.Deep.DeepHandedRow
set_option linter.unusedSimpArgs false
set_option linter.unusedVariables false
/- LoginChecks: the walk. -/
namespace Go.Proofs.YtlhlehdajkoogaaGreatDoor
open Go.RowKit

theorem nil_right : Pw.RightU [] := Pw.rightU_nil
set_option maxRecDepth 100000 in
set_option maxHeartbeats 8000000 in
theorem checks_law (v : Value) (L : List Pw.UserS) (name typed : ByteArray) (w : World) (hF : Pw.InU w v L) (hn : L.length ≤ 140737488351232) (hS : ∀ u ∈ L, Pw.SzV u) (hW : Pw.HasW w) (hT : Mz.HasT w) (hnz : name.size ≤ 140737488351232) (htz : typed.size ≤ 140737488351232) :
    Calls Tryz.prog 4 #[v, .string name, .string typed] w fun e w' => e = .returned (.bool true) ∧ Below w.heap.size w w' := by
  obtain ⟨a, cap, rfl, hc⟩ := hF
  have HF0 : Hid (Pw.InU w (.slice a L.length cap) L) := Lib.hid ⟨a, cap, rfl, hc⟩
  have HS := Lib.hid hS
  have HW := Lib.hid hW
  have HTB := Lib.hid hT
  have hlz : (L.length : Int) ≤ 140737488351232 := by omega
  have htz1 : (typed.size : Int) ≤ 140737488351232 := by omega
  have hln : L.length ≤ 140737488355328 := by omega
  clear hc hS hW hT
  go_enter Tryz.func4, Tryz.ntmps4
  go_wp2_with fail
  refine shown_any.mono ?_
  rintro e w1 ⟨rfl, hb⟩
  have HB1 := Lib.hid hb
  have HF1 := Lib.hid (HF0.out.below hb)
  clear hb
  go_wp2_with fail
  refine (Pw.rprint_any _ L w1 HF1.out hln HS.out).mono ?_
  rintro e w2 ⟨rfl, hb⟩
  have HB2 := Lib.hid (HB1.out.trans (hb.mono HB1.out.size))
  have HF2 := Lib.hid (HF1.out.below hb)
  obtain ⟨T, hT⟩ : ∃ T, Pw.printS L = T := ⟨_, rfl⟩
  rw [hT]
  have HPF := Lib.hid (print_facts hT)
  have HTN : Hid (L = [] → Pw.printB L = T.data.toList ∧ T.size = 0) := Lib.hid fun h => by
    subst h
    have e : T = ⟨#[]⟩ := by
      rw [← hT]
      unfold Pw.printS
      rw [if_pos ((Pw.rightB_iff []).2 nil_right)]
      rfl
    rw [e]
    exact ⟨rfl, rfl⟩
  clear hb hT HB1 HF1 HF0
  by_cases ht : 300 < typed.size
  · have ht1 : (300 : Int) < typed.size := by omega
    clear ht
    go_wp2
    go_ret
    exact ⟨rfl, HB2.out⟩
  have ht1 : ¬ (300 : Int) < typed.size := by omega
  have HT := Lib.hid ht
  clear ht
  have hcase : (L.length ≠ 0 ∧ T.size = 0) ∨ (Pw.RightU L ∧ Pw.printB L = T.data.toList ∧ T.size ≤ 2408 ∧ (L.length = 0 ∨ 0 < T.size)) := by
    by_cases hl : L.length = 0
    · have he := List.eq_nil_of_length_eq_zero hl
      obtain ⟨h1, h2⟩ := HTN.out he
      exact .inr ⟨by rw [he]; exact nil_right, h1, by omega, .inl hl⟩
    · rcases HPF.out with ⟨h1, _⟩ | ⟨h1, h2, h3, h4⟩
      · exact .inl ⟨hl, h1⟩
      · exact .inr ⟨h2, h3, h4, .inr h1⟩
  rcases hcase with ⟨hl, hT0⟩ | ⟨hR, hPT, hTl, hne⟩
  · have hlb : ((L.length : Int) != 0) = true := by simpa using hl
    have hTe : T.toList.isEmpty = true := by
      rw [ByteArray.toList_eq, List.isEmpty_iff]
      exact List.eq_nil_of_length_eq_zero (by rw [Array.length_toList]; exact hT0)
    clear HPF HTN hl hT0
    go_wp2
    go_ret
    exact ⟨rfl, HB2.out⟩
  have HPR := Lib.hid (And.intro hR (And.intro hPT hTl))
  have hgd : ((L.length : Int) != 0) = false ∨ ((L.length : Int) != 0) = true ∧ T.toList.isEmpty = false := by
    by_cases hl : L.length = 0
    · exact .inl (by simp [hl])
    · refine .inr ⟨by simpa using hl, ?_⟩
      rcases hne with h | h
      · exact absurd h hl
      · rw [ByteArray.toList_eq]
        cases hd : T.data.toList with
        | nil =>
          have : T.size = 0 := by show T.data.size = 0; rw [← Array.length_toList, hd]; rfl
          omega
        | cons a l => rfl
  clear HPF HTN hR hPT hTl hne
  go_upto_region 3 with (fail)
  go_cut [32] from 21 to 32 (fun v32 wx => wx = w2 ∧ v32 = .bool false)
  case first =>
    rcases hgd with h | ⟨h, h'⟩
    · go_wp2
      go_meet
      exact ⟨rfl, by rw [decide_eq_false (show ¬ (300 : Int) < typed.size by omega)]⟩
    · go_wp2
      go_meet
      exact ⟨rfl, by rw [decide_eq_false (show ¬ (300 : Int) < typed.size by omega)]⟩
  case rest =>
    obtain ⟨rfl, rfl⟩ := hcut
    clear hgd
    generalize wc = wb at *
    have ha := alloc_heap wb (.cells #[.string ⟨#[108, 111, 103, 105, 110]⟩, .string name] 9)
    have HL := Lib.hid (lnew_any ⟨#[108, 111, 103, 105, 110]⟩ 46 (fun W => prog_login W) ha)
    have HB3 := Lib.hid (belowA HB2.out (.cells #[.string ⟨#[108, 111, 103, 105, 110]⟩, .string name] 9))
    have hb3 := (Below.refl wb.heap.size wb).alloc (Nat.le_refl _) (.cells #[.string ⟨#[108, 111, 103, 105, 110]⟩, .string name] 9)
    have HBA := Lib.hid hb3
    clear ha hb3
    go_wp2_with fail
    refine HL.out.mono ?_
    rintro e w9 ⟨l, p, pd, pw, v, wv, hN⟩
    obtain rfl := hN.ret
    have hb9 := HBA.out.trans (hN.bel.mono HBA.out.size)
    have HB9 := Lib.hid hb9
    have HNW := Lib.hid hN
    have HF9 := Lib.hid (HF2.out.below hb9)
    clear hN hb9 HL
    go_wp2_with fail
    refine (Pw.rfind_any _ L name w9 HF9.out hln).mono ?_
    intro e w10 hf
    obtain ⟨u, is, hfq, rfl, hb⟩ := FndQ.of hf
    obtain ⟨W, hW, hbk, hbW, hTh⟩ := stored_user (w := w10) (C := Pw.userC u) rfl
    have HTh := Lib.hid hTh
    have HI := Lib.hid (user_info u)
    have HO1 := Lib.hid (user_one u)
    have hbb := hb.trans (hbW.mono hb.size)
    have HBW := Lib.hid hbb
    have HU := Lib.hid hbk
    have HFQ := Lib.hid hfq
    have huz : u.pass.size ≤ 140737488351232 := by
      rcases hfq with ⟨_, k, hk, _, _, rfl⟩ | ⟨_, _, rfl⟩
      · exact (HS.out _ (List.getElem_mem hk)).pass
      · exact Nat.zero_le _
    have HUZ := Lib.hid huz
    obtain ⟨right, hright⟩ : ∃ right, (is && (u.pass.toList.isEmpty || mtB u.pass (typedS { n := 3, text := typed }))) = right := ⟨_, rfl⟩
    have HRT := Lib.hid hright
    have hS0 : W.cell? ⟨w10.heap.size, 1, none⟩ = some (.string u.pass) := cell_of hbk 1
    clear hf hfq hb hbk hbW hTh hbb huz hright
    obtain ⟨C, hC⟩ : ∃ C, Pw.userC u = C := ⟨_, rfl⟩
    rw [hC] at hW HTh HI HO1 HU ⊢
    have HC := Lib.hid hC
    clear hC
    go_upto_region 9 with (first | (refine wpList_store_mid rfl 47 _ _ rfl w10.heap.size 0 C rfl rfl HTh.out HI.out HO1.out ?_; rw [hW]; clear hW))
    obtain ⟨bu, hbu⟩ : ∃ bu, w10.heap.size = bu := ⟨_, rfl⟩
    rw [hbu] at HU hS0 ⊢
    clear hbu
    go_cut [12] from 45 to 57 (fun v12 wx => Below W.heap.size W wx ∧ v12 = .bool right)
    case first =>
      have HHU := Lib.hid HU.out
      cases is with
      | false =>
        have hr : right = false := by rw [← HRT.out]; rfl
        subst hr
        go_quiet (fail)
        go_wp2
        go_meet
        exact ⟨belowDrewN (Below.refl _ _) nq, rfl⟩
      | true =>
        cases hp : u.pass.toList.isEmpty with
        | true =>
          have hr : right = true := by rw [← HRT.out, hp]; rfl
          subst hr
          go_quiet (fail)
          go_wp2
          go_meet
          exact ⟨belowDrewN (Below.refl _ _) nq, rfl⟩
        | false =>
          have hr : right = mtB u.pass (typedS { n := 3, text := typed }) := by rw [← HRT.out, hp]; rfl
          have hty := typed_size { n := 3, text := typed } (show typed.size ≤ 2000 by have := HT.out; omega)
          have HCH := Lib.hid (fun W' => chopped_any typed (show typed.size ≤ 2000 by have := HT.out; omega) W')
          generalize typedS { n := 3, text := typed } = ty at *
          have HMT := Lib.hid (fun W' => Mz.rmatches_any u.pass ty W' HUZ.out hty)
          have HRR := Lib.hid hr
          clear hr hty
          go_region_held3 (fun W' => W'.cell? ⟨bu, 1, none⟩ = some (.string u.pass))
            ((first | exact hS0 | exact hS1 | exact hS2))
            ((first
              | (go_at_call 20; refine (HCH.out _).mono ?_; rintro e wy ⟨rfl, rfl⟩; have hS1 := hS0)
              | (go_at_call 19; refine (HMT.out _).mono ?_; rintro e wy ⟨r, rfl, hrm, hb1⟩; have hby : Below W.heap.size W wy := ⟨hb1.os, hb1.tape, hb1.output, hb1.size, hb1.block⟩; have hS2 : wy.cell? ⟨bu, 1, none⟩ = some (.string u.pass) := (cell_of ((Kb.below hby).get HHU.out) 1).trans (by rw [← HC.out]; rfl))))
          obtain rfl : r = right := (mtB_iff hrm).trans HRR.out.symm
          have HBY := Lib.hid hby
          clear hS1 hS2 hby hb1 hrm
          go_wp2
          go_meet
          exact ⟨HBY.out, rfl⟩
    case rest =>
      obtain ⟨hbx, rfl⟩ := hcut
      have hW9 := HBW.out.trans (hbx.mono HBW.out.size)
      have hbb := HB9.out.trans (hW9.mono HB9.out.size)
      obtain ⟨hrun, hnew⟩ := HNW.out.run (B := wb) HBA.out wc.heap.size
      obtain ⟨X, hX⟩ : ∃ X : LcX, X = { c := ⟨wb, p, wc.heap.size, (sLogin, .slice none 0 0, false, 0)⟩, name := name, text := T, typed := typed, u := u, is := is, right := right } := ⟨_, rfl⟩
      have HF : Hid (LcF X L) := Lib.hid (by
        rw [hX]
        exact ⟨rfl, HW.out.below HB2.out, HTB.out.below HB2.out, HPR.out.1, HPR.out.2.1, Nat.le_trans HPR.out.2.2 (by omega), (show typed.size ≤ 300 by have := HT.out; omega), (show name.size ≤ 140737488355328 by omega), HFQ.out, HUZ.out, HRT.out.symm⟩)
      have HRUN : Hid (Run X.c l w9 { prog := sLogin, todo := v, th := .nilFunc, c := { op := 0 } } ∧ NewS 46 X.name { prog := sLogin, todo := v, th := .nilFunc, c := { op := 0 } } w9) := Lib.hid (by rw [hX]; exact ⟨hrun, hnew⟩)
      have HXC : Hid (X.c.w0 = wb ∧ X.c.q = wc.heap.size ∧ X.text = T ∧ X.typed = typed ∧ X.u = u ∧ X.name = name ∧ X.right = right) := Lib.hid (by rw [hX]; exact ⟨rfl, rfl, rfl, rfl, rfl, rfl, rfl⟩)
      have HGE8 : Hid (wb.heap.size ≤ wc.heap.size) := Lib.hid hbb.size
      have HUC := Lib.hid ((Kb.below hbx).get HU.out)
      have HTl := Lib.hid HPR.out.2.2
      obtain ⟨Z, hZ⟩ : ∃ Z, ({} : An).cells = Z := ⟨_, rfl⟩
      have hz1 := an_size
      have hz2 := an_one
      have hz3 := an_zero
      rw [hZ] at hz1 hz2 hz3
      have HZ2 := Lib.hid hz2
      have HZ3 := Lib.hid hz3
      have HZI : Hid ((Tryz.prog.info? 35).map (·.size) = some Z.size) := Lib.hid (by rw [hz1]; rfl)
      obtain ⟨w4, hw4, hrb, hbel, hs4, hT4⟩ := stored_ans (w := wc) (C := Z) hz1
      have HT4 := Lib.hid hT4
      have HU4 := Lib.hid ((Kb.below hbel).get HUC.out)
      have HTD0 : Hid (Td X.c l (LcP X .new) { prog := sLogin, todo := v, th := .nilFunc, c := { op := 0 } } (rLc X .new).cells w4) := Lib.hid (by
        have hq : X.c.q = wc.heap.size := HXC.out.2.1
        have h94 := hW9.trans (hbel.mono hW9.size)
        have hk := (Kb.below h94).kr X.c.q
        have hr := HRUN.out.1
        refine ⟨hr.kr (hr.mach.below h94) (hr.bel.trans (h94.mono hr.bel.size)) hk, NewS.kr HRUN.out.2 hk, ?_, ?_⟩
        · rw [hq, show (rLc X .new).cells = Z from hZ]; exact hrb
        · rw [hq, HXC.out.1]; exact HGE8.out)
      obtain ⟨N, hN⟩ : ∃ N, T.size = N := ⟨_, rfl⟩
      have HBWW : Hid (∀ wr, Below wb.heap.size wb wr → Below w.heap.size w wr) := Lib.hid fun wr h => HB2.out.trans (h.mono HB2.out.size)
      have HXN : Hid (X.text.size = N ∧ X.c.q = wc.heap.size) := Lib.hid ⟨by rw [HXC.out.2.2.1, hN], HXC.out.2.1⟩
      have hNl : N ≤ 2408 := by have := HTl.out; omega
      clear hZ hz1 hz2 hz3 hrb hbel hs4 hT4 HRUN HGE8 HUC hbx hW9 hbb hrun hnew hX HNW HB9 HBA HBW HU HFQ HUZ HRT HPR HTl HF2 HF9 HB3
      go_wp2_with (refine wpList_store_mid rfl 35 _ _ rfl wc.heap.size 0 Z rfl HZ3.out.symm HT4.out HZI.out HZ2.out ?_; rw [hw4]; clear hw4)
      clear HT4
      obtain ⟨rb, hrbn⟩ : ∃ rb, wc.heap.size = rb := ⟨_, rfl⟩
      rw [hrbn] at HXN HXC ⊢
      clear hrbn
      go_loopg [13, 15, 16] 60 (fun g nv tv kv wr => ∃ (k : Nat) (G : LcG) (m : Ma), nv = .int .i64 (LcG.ntH G : Int) ∧ tv = .int .i64 (LcG.atH N G : Int) ∧ kv = .int .i64 (k : Int) ∧ k + g = 60 ∧ Hid (LcG.Bd N G k ∧ G ≠ .bec ∧ G ≠ .fin ∧ (∀ b, LcG.late G = some b → b = X.right) ∧ Td X.c l (LcP X G) m (rLc X G).cells wr ∧ wr.heap[bu]? = some (.cells C 47 (0, 0))))
      case atStart => exact ⟨0, .new, _, rfl, rfl, rfl, by omega, Lib.hid ⟨rfl, by simp, by simp, (fun b h => by cases h), HTD0.out, HU4.out⟩⟩
      case round =>
        clear HTD0 HU4
        obtain ⟨k, G, m, rfl, rfl, rfl, hkg, HI5⟩ := hrel
        have hk60 := LcG.Bd.le (by omega) HI5.out.1 HI5.out.2.1 HI5.out.2.2.1
        obtain ⟨og, rfl⟩ : ∃ og, gk = og + 1 := ⟨gk - 1, by omega⟩
        have hk2 : (k : Int) < 60 := by omega
        have hsl : ∀ a, G = .slp a → a ≤ N := fun a e => by
          have h := HI5.out.1
          rw [e] at h
          exact h.2.2.1
        have HAN := Lib.hid HI5.out.2.2.2.2.1.ans
        have HRI : Hid ((Tryz.prog.info? 35).map (·.size) = some (rLc X G).cells.size) := Lib.hid rfl
        have HCA := Lib.hid (lc_next HF.out HI5.out.2.2.2.2.1.run G HI5.out.2.2.2.2.1.st (by rw [HXN.out.1]; exact hsl) HI5.out.2.1 HI5.out.2.2.1)
        rw [HXN.out.2] at HAN
        have hat := LcG.at_nxt N X.free X.right G hsl
        have hnt := LcG.nt_nxt N X.free X.right G
        have HNX : Hid (LcG.Bd N (LcG.nxt N X.free X.right G) (k + 1) ∧ (∀ b, LcG.late (LcG.nxt N X.free X.right G) = some b → b = X.right) ∧ LcG.nxt N X.free X.right G ≠ .new) := Lib.hid ⟨LcG.Bd.nxt (by omega) HI5.out.1 HI5.out.2.1 HI5.out.2.2.1, LcG.late_nxt _ _ _ _ HI5.out.2.2.2.1, LcG.nxt_new _ _ _ _⟩
        rw [HXN.out.1] at HCA
        have hsz : (rLc X G).cells.size = 19 := rfl
        obtain ⟨R0, hR0⟩ : ∃ R, (rLc X G).cells = R := ⟨_, rfl⟩
        have HTD := Lib.hid HI5.out.2.2.2.2.1
        have HUR := Lib.hid HI5.out.2.2.2.2.2
        rw [hR0] at HAN HRI HCA HTD hsz
        generalize LcG.nxt N X.free X.right G = G2 at *
        rw [← hat, ← hnt]
        clear hat hnt HI5 hR0 hsl hk60
        go_wp2_with (refine wpList_load_row rfl 35 _ rfl rb rfl 35 R0 (0, 0) _ HAN.out Tryz.underlying35 rfl HRI.out ?_)
        refine HCA.out.mono ?_
        intro e w5 hn5
        obtain ⟨m1, rfl, htold, hT5, hkb5⟩ := HTD.out.nextK hn5
        have hpr : m1.prog = sLogin := congrArg (·.1) (hT5.run.st.trans HF.out.st)
        have hkind := hT5.st.kind HNX.out.2.2 hpr
        obtain ⟨W1, hW1, hcb, hcl, hs1, hcT⟩ := stored_call (w := w5) (C := m1.c.cells) rfl
        have hT1 := hT5.below (fun m w w' => LcP.kr G2 m w w') hcl
        have hu1 := (Kb.below hcl).get (hkb5.get HUR.out)
        have hans1 := hT1.ans
        rw [HXN.out.2] at hans1
        have hth := there_of hans1
        have hcne := ne_of_type hcb hans1 (by decide)
        have hune := ne_of_type hu1 hans1 (by decide)
        obtain ⟨Y, hY⟩ : ∃ Y, ({ n := 3 } : An).cells = Y := ⟨_, rfl⟩
        have hYs : Y.size = 19 := by rw [← hY]; rfl
        have HY3 : Hid (Value.agg Y = .agg #[.int .i64 0, .int .i64 3, .int .i64 0, .string ⟨#[]⟩, .slice none 0 0, .int .i64 0, .int .i64 0, .int .i64 0, .int .i64 0, .int .i64 0, .int .i64 0, .int .i64 0, .int .i64 0, .int .i64 0, .int .i64 0, .int .i64 0, .int .i64 0, .int .i64 0, .int .i64 0]) := Lib.hid (by rw [← hY]; rfl)
        have HY1 : Hid (Y.all (·.oneCell') = true) := Lib.hid (by rw [← hY]; simp [An.cells, Value.oneCell'])
        have HYI : Hid ((Tryz.prog.info? 35).map (·.size) = some Y.size) := Lib.hid (by rw [hYs]; rfl)
        have HTH : Hid (W1.there rb 0 Y.size) := Lib.hid (by rw [hYs, ← hsz]; exact hth)
        have hT2 := hT1.whole (fun m w w' => LcP.kr G2 m w w') (C := Y) (by rw [hYs, hsz])
        rw [HXN.out.2] at hT2
        have hcb2 : (W1.setCells rb 0 Y.toList).heap[w5.heap.size]? = some (.cells m1.c.cells 39 (0, 0)) := (heap_setCells_other hcne _ _ _).trans hcb
        have hu2 : (W1.setCells rb 0 Y.toList).heap[bu]? = some (.cells C 47 (0, 0)) := (heap_setCells_other hune _ _ _).trans hu1
        obtain ⟨W2, hW2⟩ : ∃ W2, W1.setCells rb 0 Y.toList = W2 := ⟨_, rfl⟩
        rw [hW2] at hT2 hcb2 hu2
        have HT2 := Lib.hid hT2
        have HU2 := Lib.hid hu2
        have HUN := Lib.hid hune
        have HYC := Lib.hid hY
        have HCT := Lib.hid hcT
        have HCI : Hid ((Tryz.prog.info? 39).map (·.size) = some m1.c.cells.size) := Lib.hid rfl
        have HC1 : Hid (m1.c.cells.all (·.oneCell') = true) := Lib.hid (Ca.one _ htold.1.1 htold.1.2)
        have hco := cell_of hcb2
        have hrc := cell_of (hT2.ans)
        have hrf := frozen_of (hT2.ans)
        rw [HXN.out.2] at hrc hrf
        clear hn5 htold hT5 hkb5 hpr hcb hcl hs1 hcT hT1 hans1 hth hcne hune hu1 hu2 hYs hT2 hcb2 HTD HAN HRI HCA hsz HUR
        cases hkind with
        | slp a e0 e4 =>
          have c0 : W2.cell? ⟨w5.heap.size, 0, none⟩ = some (.int .i64 4) := (hco 0).trans (by rw [← e0]; rfl)
          have c4 : W2.cell? ⟨w5.heap.size, 4, none⟩ = some (.int .i64 3) := (hco 4).trans (by rw [← e4]; rfl)
          have r3 : W2.cell? ⟨rb, 3, none⟩ = some (.string ⟨#[]⟩) := (hrc 3).trans (by rw [← HYC.out]; rfl)
          have f3 := hrf 3
          have haN : a ≤ N := HNX.out.1.2.2.1
          obtain ⟨CC, hCC⟩ : ∃ CC, m1.c.cells = CC := ⟨_, rfl⟩
          rw [hCC] at HCT HCI HC1 hW1 ⊢
          have hhi : (min (N : Int) ((a : Int) + 256)).toNat = min (a + 256) N := by omega
          have hsum : (a : Int) + ((min (a + 256) N - a : Nat) : Int) = (LcG.atH N (.slp a) : Int) := by
            show _ = ((min (a + 256) N : Nat) : Int)
            omega
          have HSUM := Lib.hid hsum
          have HN2 : Hid (LcG.Bd N (LcG.slp a) (k + 1) ∧ (LcG.slp a) ≠ LcG.bec ∧ (LcG.slp a) ≠ LcG.fin ∧ (∀ b, LcG.late (LcG.slp a) = some b → b = X.right) ∧ Td X.c l (LcP X (LcG.slp a)) m1 (rLc X (LcG.slp a)).cells (W2.setCell ⟨rb, 3, none⟩ (.string (T.extract a (min (a + 256) N)))) ∧ (W2.setCell ⟨rb, 3, none⟩ (.string (T.extract a (min (a + 256) N)))).heap[bu]? = some (.cells C 47 (0, 0))) := Lib.hid ⟨HNX.out.1, by simp, by simp, HNX.out.2.1, by
            have h := HT2.out.set (fun m w w' => LcP.kr (.slp a) m w w') 3 (.string (T.extract a (min (a + 256) N)))
            rw [HXN.out.2, ← HYC.out] at h
            have e : (rLc X (.slp a)).cells = ({ n := 3 } : An).cells.setIfInBounds 3 (.string (T.extract a (min (a + 256) N))) := by
              rw [← HXN.out.1, ← HXC.out.2.2.1]; rfl
            rw [e]
            exact h, (Below.heap_setCell _ _ _ _ HUN.out).trans HU2.out⟩
          clear hsum hCC hco hrc hrf HT2 e0 e4
          have hat : LcG.atT N (.slp a) = a := rfl
          have hnt : LcG.ntT (.slp a) = 0 := rfl
          rw [hat, hnt]
          have ha0 : (0 : Int) ≤ a := by omega
          have ha1 : (a : Int) ≤ T.size := by omega
          have ha2 : (a : Int) + 256 ≤ 2664 := by omega
          go_wp2_with (first | (refine wpList_store_mid rfl 39 _ _ rfl w5.heap.size 0 CC rfl rfl HCT.out HCI.out HC1.out ?_; rw [hW1]; clear hW1) | (refine wpList_store_mid rfl 35 _ _ rfl rb 0 Y rfl HY3.out.symm HTH.out HYI.out HY1.out ?_; rw [hW2]; clear hW2))
          go_roundg og
          case measure => omega
          case rel => exact ⟨k + 1, .slp a, m1, rfl, by rw [HSUM.out], by go_num, by omega, HN2⟩
        | rd e0 e4 =>
          have c0 : W2.cell? ⟨w5.heap.size, 0, none⟩ = some (.int .i64 4) := (hco 0).trans (by rw [← e0]; rfl)
          have c4 : W2.cell? ⟨w5.heap.size, 4, none⟩ = some (.int .i64 0) := (hco 4).trans (by rw [← e4]; rfl)
          have r3 : W2.cell? ⟨rb, 3, none⟩ = some (.string ⟨#[]⟩) := (hrc 3).trans (by rw [← HYC.out]; rfl)
          have f3 := hrf 3
          have HN2 : Hid (LcG.Bd N LcG.rd (k + 1) ∧ LcG.rd ≠ LcG.bec ∧ LcG.rd ≠ LcG.fin ∧ (∀ b, LcG.late LcG.rd = some b → b = X.right) ∧ Td X.c l (LcP X LcG.rd) m1 (rLc X LcG.rd).cells (W2.setCell ⟨rb, 3, none⟩ (.string typed)) ∧ (W2.setCell ⟨rb, 3, none⟩ (.string typed)).heap[bu]? = some (.cells C 47 (0, 0))) := Lib.hid ⟨HNX.out.1, by simp, by simp, HNX.out.2.1, by
            have h := HT2.out.set (fun m w w' => LcP.kr .rd m w w') 3 (.string typed)
            rw [HXN.out.2, ← HYC.out] at h
            have e : (rLc X .rd).cells = ({ n := 3 } : An).cells.setIfInBounds 3 (.string typed) := by
              rw [← HXC.out.2.2.2.1]; rfl
            rw [e]
            exact h, (Below.heap_setCell _ _ _ _ HUN.out).trans HU2.out⟩
          obtain ⟨CC, hCC⟩ : ∃ CC, m1.c.cells = CC := ⟨_, rfl⟩
          rw [hCC] at HCT HCI HC1 hW1 ⊢
          clear hCC hco hrc hrf HT2 e0 e4
          go_wp2_with (first | (refine wpList_store_mid rfl 39 _ _ rfl w5.heap.size 0 CC rfl rfl HCT.out HCI.out HC1.out ?_; rw [hW1]; clear hW1) | (refine wpList_store_mid rfl 35 _ _ rfl rb 0 Y rfl HY3.out.symm HTH.out HYI.out HY1.out ?_; rw [hW2]; clear hW2))
          go_roundg og
          case measure => omega
          case rel => exact ⟨k + 1, .rd, m1, rfl, rfl, by go_num, by omega, HN2⟩
        | wr _ n hg5 e0 e3 =>
          obtain ⟨tx, htx⟩ : ∃ tx, m1.c.text = tx := ⟨_, rfl⟩
          have c0 : W2.cell? ⟨w5.heap.size, 0, none⟩ = some (.int .i64 5) := (hco 0).trans (by rw [← e0]; rfl)
          have c3 : W2.cell? ⟨w5.heap.size, 3, none⟩ = some (.string tx) := (hco 3).trans (by rw [← htx]; rfl)
          have htz : (tx.size : Int) = (n : Int) := by rw [← htx, e3]
          have r1 : W2.cell? ⟨rb, 1, none⟩ = some (.int .i64 3) := (hrc 1).trans (by rw [← HYC.out]; rfl)
          have f1 := hrf 1
          have hgr : rLc X G2 = { n := (n : Int) } ∧ G2 ≠ .bec ∧ G2 ≠ .fin ∧ LcG.atH N G2 = LcG.atT N G2 ∧ LcG.ntH G2 = LcG.ntT G2 := by
            rcases hg5 with ⟨rfl, rfl⟩ | ⟨rfl, rfl⟩ <;> exact ⟨rfl, by simp, by simp, rfl, rfl⟩
          have HGR := Lib.hid hgr
          have HN2 : Hid (LcG.Bd N G2 (k + 1) ∧ G2 ≠ LcG.bec ∧ G2 ≠ LcG.fin ∧ (∀ b, LcG.late G2 = some b → b = X.right) ∧ Td X.c l (LcP X G2) m1 (rLc X G2).cells (W2.setCell ⟨rb, 1, none⟩ (.int .i64 (n : Int))) ∧ (W2.setCell ⟨rb, 1, none⟩ (.int .i64 (n : Int))).heap[bu]? = some (.cells C 47 (0, 0))) := Lib.hid ⟨HNX.out.1, hgr.2.1, hgr.2.2.1, HNX.out.2.1, by
            have h := HT2.out.set (fun m w w' => LcP.kr G2 m w w') 1 (.int .i64 (n : Int))
            rw [HXN.out.2, ← HYC.out] at h
            rw [hgr.1]
            exact h, (Below.heap_setCell _ _ _ _ HUN.out).trans HU2.out⟩
          obtain ⟨CC, hCC⟩ : ∃ CC, m1.c.cells = CC := ⟨_, rfl⟩
          rw [hCC] at HCT HCI HC1 hW1 ⊢
          clear hCC hco hrc hrf HT2 e0 e3 htx hgr hg5
          go_wp2_with (first | (refine wpList_store_mid rfl 39 _ _ rfl w5.heap.size 0 CC rfl rfl HCT.out HCI.out HC1.out ?_; rw [hW1]; clear hW1) | (refine wpList_store_mid rfl 35 _ _ rfl rb 0 Y rfl HY3.out.symm HTH.out HYI.out HY1.out ?_; rw [hW2]; clear hW2))
          go_roundg og
          case measure => omega
          case rel => exact ⟨k + 1, G2, m1, by rw [HGR.out.2.2.2.2], by rw [HGR.out.2.2.2.1], by go_num, by omega, HN2⟩
        | note e0 e3 e6 =>
          rw [HXC.out.2.2.2.2.2.1] at e3
          rw [HXC.out.2.2.2.2.2.2] at e6
          have c0 : W2.cell? ⟨w5.heap.size, 0, none⟩ = some (.int .i64 26) := (hco 0).trans (by rw [← e0]; rfl)
          have c3 : W2.cell? ⟨w5.heap.size, 3, none⟩ = some (.string name) := (hco 3).trans (by rw [← e3]; rfl)
          have c6 : W2.cell? ⟨w5.heap.size, 6, none⟩ = some (.int .i64 (if right = true then 1 else 0)) := (hco 6).trans (by rw [← e6]; rfl)
          have HN2 : Hid (LcG.Bd N LcG.note (k + 1) ∧ LcG.note ≠ LcG.bec ∧ LcG.note ≠ LcG.fin ∧ (∀ b, LcG.late LcG.note = some b → b = X.right) ∧ Td X.c l (LcP X LcG.note) m1 (rLc X LcG.note).cells W2 ∧ W2.heap[bu]? = some (.cells C 47 (0, 0))) := Lib.hid ⟨HNX.out.1, by simp, by simp, HNX.out.2.1, by rw [show rLc X .note = { n := 3 } from rfl, HYC.out]; exact HT2.out, HU2.out⟩
          obtain ⟨CC, hCC⟩ : ∃ CC, m1.c.cells = CC := ⟨_, rfl⟩
          rw [hCC] at HCT HCI HC1 hW1 ⊢
          clear hCC hco hrc hrf HT2 e0 e3 e6
          have hat : LcG.atT N .note = N := rfl
          have hnt : LcG.ntT .note = 0 := rfl
          rw [hat, hnt]
          have hat2 : LcG.atH N .note = N := rfl
          have HAT := Lib.hid hat2
          cases right
          · rw [if_neg (by decide)] at c6
            clear hat hnt hat2
            go_wp2_with (first | (refine wpList_store_mid rfl 39 _ _ rfl w5.heap.size 0 CC rfl rfl HCT.out HCI.out HC1.out ?_; rw [hW1]; clear hW1) | (refine wpList_store_mid rfl 35 _ _ rfl rb 0 Y rfl HY3.out.symm HTH.out HYI.out HY1.out ?_; rw [hW2]; clear hW2))
            go_roundg og
            case measure => omega
            case rel => exact ⟨k + 1, .note, m1, rfl, by rw [HAT.out], by go_num, by omega, HN2⟩
          · rw [if_pos rfl] at c6
            clear hat hnt hat2
            go_wp2_with (first | (refine wpList_store_mid rfl 39 _ _ rfl w5.heap.size 0 CC rfl rfl HCT.out HCI.out HC1.out ?_; rw [hW1]; clear hW1) | (refine wpList_store_mid rfl 35 _ _ rfl rb 0 Y rfl HY3.out.symm HTH.out HYI.out HY1.out ?_; rw [hW2]; clear hW2))
            go_roundg og
            case measure => omega
            case rel => exact ⟨k + 1, .note, m1, rfl, by rw [HAT.out], by go_num, by omega, HN2⟩
        | bec e0 e8 e9 =>
          have hrt : right = true := by rw [← HXC.out.2.2.2.2.2.2]; exact (HNX.out.2.1 true rfl).symm
          rw [HXC.out.2.2.2.2.1] at e8 e9
          have c0 : W2.cell? ⟨w5.heap.size, 0, none⟩ = some (.int .i64 23) := (hco 0).trans (by rw [← e0]; rfl)
          have c8 : W2.cell? ⟨w5.heap.size, 8, none⟩ = some (.int .i64 u.id) := (hco 8).trans (by rw [← e8]; rfl)
          have c9 : W2.cell? ⟨w5.heap.size, 9, none⟩ = some (.int .i64 u.group) := (hco 9).trans (by rw [← e9]; rfl)
          have y2 : W2.cell? ⟨bu, 2, none⟩ = some (.int .i64 u.id) := (cell_of HU2.out 2).trans (by rw [← HC.out]; rfl)
          have y3 : W2.cell? ⟨bu, 3, none⟩ = some (.int .i64 u.group) := (cell_of HU2.out 3).trans (by rw [← HC.out]; rfl)
          have hbel := HT2.out.run.bel
          rw [HXC.out.1] at hbel
          have HBE := Lib.hid (HBWW.out _ hbel)
          obtain ⟨CC, hCC⟩ : ∃ CC, m1.c.cells = CC := ⟨_, rfl⟩
          rw [hCC] at HCT HCI HC1 hW1 ⊢
          clear hCC hco hrc hrf HT2 e0 e8 e9 hbel
          have hnt : LcG.ntT .bec = 1 := rfl
          rw [hnt, hrt]
          clear hnt hrt
          go_wp2_with (first | (refine wpList_store_mid rfl 39 _ _ rfl w5.heap.size 0 CC rfl rfl HCT.out HCI.out HC1.out ?_; rw [hW1]; clear hW1) | (refine wpList_store_mid rfl 35 _ _ rfl rb 0 Y rfl HY3.out.symm HTH.out HYI.out HY1.out ?_; rw [hW2]; clear hW2))
          go_ret
          exact ⟨rfl, HBE.out⟩
        | fin e0 e6 =>
          have hrt : right = false := by rw [← HXC.out.2.2.2.2.2.2]; exact (HNX.out.2.1 false rfl).symm
          have c0 : W2.cell? ⟨w5.heap.size, 0, none⟩ = some (.int .i64 20) := (hco 0).trans (by rw [← e0]; rfl)
          have c6 : W2.cell? ⟨w5.heap.size, 6, none⟩ = some (.int .i64 1) := (hco 6).trans (by rw [← e6]; rfl)
          have hbel := HT2.out.run.bel
          rw [HXC.out.1] at hbel
          have HBE := Lib.hid (HBWW.out _ hbel)
          obtain ⟨CC, hCC⟩ : ∃ CC, m1.c.cells = CC := ⟨_, rfl⟩
          rw [hCC] at HCT HCI HC1 hW1 ⊢
          clear hCC hco hrc hrf HT2 e0 e6 hbel
          have hnt : LcG.ntT .fin = 1 := rfl
          rw [hnt, hrt]
          clear hnt hrt
          go_wp2_with (first | (refine wpList_store_mid rfl 39 _ _ rfl w5.heap.size 0 CC rfl rfl HCT.out HCI.out HC1.out ?_; rw [hW1]; clear hW1) | (refine wpList_store_mid rfl 35 _ _ rfl rb 0 Y rfl HY3.out.symm HTH.out HYI.out HY1.out ?_; rw [hW2]; clear hW2))
          go_ret
          exact ⟨rfl, HBE.out⟩
        | other _ hz h1 h2 hr hat hnt =>
          obtain ⟨z1, z2, z3, z4, z5⟩ := hz
          have c0 : W2.cell? ⟨w5.heap.size, 0, none⟩ = some (.int .i64 m1.c.op) := hco 0
          have HN2 : Hid (LcG.Bd N G2 (k + 1) ∧ G2 ≠ LcG.bec ∧ G2 ≠ LcG.fin ∧ (∀ b, LcG.late G2 = some b → b = X.right) ∧ Td X.c l (LcP X G2) m1 (rLc X G2).cells W2 ∧ W2.heap[bu]? = some (.cells C 47 (0, 0))) := Lib.hid ⟨HNX.out.1, h1, h2, HNX.out.2.1, by rw [hr, HYC.out]; exact HT2.out, HU2.out⟩
          rw [HXN.out.1] at hat
          have HAT := Lib.hid hat
          have HNT := Lib.hid hnt
          generalize m1.c.op = z at *
          obtain ⟨CC, hCC⟩ : ∃ CC, m1.c.cells = CC := ⟨_, rfl⟩
          rw [hCC] at HCT HCI HC1 hW1 ⊢
          clear hCC hco hrc hrf h1 h2 hr hat hnt HT2
          go_wp2_with (first | (refine wpList_store_mid rfl 39 _ _ rfl w5.heap.size 0 CC rfl rfl HCT.out HCI.out HC1.out ?_; rw [hW1]; clear hW1) | (refine wpList_store_mid rfl 35 _ _ rfl rb 0 Y rfl HY3.out.symm HTH.out HYI.out HY1.out ?_; rw [hW2]; clear hW2))
          go_roundg og
          case measure => omega
          case rel => exact ⟨k + 1, G2, m1, by rw [HNT.out], by rw [HAT.out], by go_num, by omega, HN2⟩
end Go.Proofs.YtlhlehdajkoogaaGreatDoor
/- Arguments that are slices of users, opened. -/
namespace Go.Proofs.Pw
open Go.ChangeShapes Go.WideShapes Go.ChangeAt Go.RowKit
open Go.Deep (open_slice)

theorem laidOut : laidOutB Tryz.prog = true := by kernel_rfl
theorem cells9 : Tryz.prog.cellsOf 9 = 1 := by kernel_rfl
theorem cells33 : Tryz.prog.cellsOf 47 = 6 := by kernel_rfl
theorem cells3 : Tryz.prog.cellsOf 3 = 1 := by kernel_rfl
theorem weights_all {H : Type} {P : Program} {e : TypeId} {x : DataW H} {k : Nat} : ∀ {l : List (DataW H)}, x ∈ l → k ∈ x.weights P e → k ∈ DataW.weightsAll P e l
  | [], h, _ => by cases h
  | y :: l, h, hk => by
    unfold DataW.weightsAll
    rcases List.mem_cons.1 h with rfl | h
    · exact List.mem_append_left _ hk
    · exact List.mem_append_right _ (weights_all h hk)
theorem drop_one {cs : List Value} {k : Nat} {v : Value} (h : (cs.drop k).take 1 = [v]) : cs[k]? = some v := by
  have := congrArg (fun l : List Value => l[0]?) h
  simpa using this
/-- The sizes of a user's texts are among a datum's weights. -/
structure WeighU {H : Type} (f : UserS) (d : DataW H) : Prop where
  name : f.name.data.toList.length ∈ d.weights Tryz.prog 47
  pass : f.pass.data.toList.length ∈ d.weights Tryz.prog 47
  home : f.home.data.toList.length ∈ d.weights Tryz.prog 47
  shell : f.shell.data.toList.length ∈ d.weights Tryz.prog 47
set_option maxHeartbeats 1000000 in
theorem user_cells {H : Type} {enc : TypeId × Value → H} {W : World} {sp : Nat → Bool} {fuel : Nat} {cs : List Value} {x : DataW H × List MemPlace} (h : DataW.trod enc Tryz.prog W 0 sp true fuel 47 cs = some x) :
    ∃ f : UserS, (∀ i, i < 6 → cs[i]? = (userC f)[i]?) ∧ WeighU f x.1 := by
  obtain ⟨xs, n, _, rfl, hl, hlen, hf⟩ := DataW.trod_struct Tryz.underlying47 h
  have q0 : ∃ s : ByteArray, cs[0]? = some (.string s) ∧ s.data.toList.length ∈ DataW.weights Tryz.prog 47 (.agg (xs.map (·.1))) := by
    obtain ⟨y, hy⟩ : ∃ y, xs[0]? = some y := ⟨_, List.getElem?_eq_getElem (by rw [hlen]; decide)⟩
    have h4 : DataW.trod enc Tryz.prog W 0 sp true n 9 ((cs.drop 0).take (Tryz.prog.cellsOf 9)) = some y := (hf 0 _ rfl).trans hy
    rw [cells9] at h4
    obtain ⟨s, e, ey, _⟩ := DataW.trod_string Tryz.underlying9 h4
    refine ⟨s, drop_one e, ?_⟩
    unfold DataW.weights
    rw [Tryz.underlying47]
    refine DataW.weights_mem_each (j := 0) (t := 9) (d := y.1) rfl (by simp [hy]) _ ?_
    rw [ey]
    simp [DataW.weights]
  have q1 : ∃ s : ByteArray, cs[1]? = some (.string s) ∧ s.data.toList.length ∈ DataW.weights Tryz.prog 47 (.agg (xs.map (·.1))) := by
    obtain ⟨y, hy⟩ : ∃ y, xs[1]? = some y := ⟨_, List.getElem?_eq_getElem (by rw [hlen]; decide)⟩
    have h4 : DataW.trod enc Tryz.prog W 0 sp true n 9 ((cs.drop 1).take (Tryz.prog.cellsOf 9)) = some y := (hf 1 _ rfl).trans hy
    rw [cells9] at h4
    obtain ⟨s, e, ey, _⟩ := DataW.trod_string Tryz.underlying9 h4
    refine ⟨s, drop_one e, ?_⟩
    unfold DataW.weights
    rw [Tryz.underlying47]
    refine DataW.weights_mem_each (j := 1) (t := 9) (d := y.1) rfl (by simp [hy]) _ ?_
    rw [ey]
    simp [DataW.weights]
  have q2 : ∃ v : Int, cs[2]? = some (.int .i64 v) := by
    obtain ⟨y, hy⟩ : ∃ y, xs[2]? = some y := ⟨_, List.getElem?_eq_getElem (by rw [hlen]; decide)⟩
    have h4 : DataW.trod enc Tryz.prog W 0 sp true n 3 ((cs.drop 2).take (Tryz.prog.cellsOf 3)) = some y := (hf 2 _ rfl).trans hy
    rw [cells3] at h4
    obtain ⟨v, e, _, _⟩ := DataW.trod_int Tryz.underlying3 h4
    exact ⟨v, drop_one e⟩
  have q3 : ∃ v : Int, cs[3]? = some (.int .i64 v) := by
    obtain ⟨y, hy⟩ : ∃ y, xs[3]? = some y := ⟨_, List.getElem?_eq_getElem (by rw [hlen]; decide)⟩
    have h4 : DataW.trod enc Tryz.prog W 0 sp true n 3 ((cs.drop 3).take (Tryz.prog.cellsOf 3)) = some y := (hf 3 _ rfl).trans hy
    rw [cells3] at h4
    obtain ⟨v, e, _, _⟩ := DataW.trod_int Tryz.underlying3 h4
    exact ⟨v, drop_one e⟩
  have q4 : ∃ s : ByteArray, cs[4]? = some (.string s) ∧ s.data.toList.length ∈ DataW.weights Tryz.prog 47 (.agg (xs.map (·.1))) := by
    obtain ⟨y, hy⟩ : ∃ y, xs[4]? = some y := ⟨_, List.getElem?_eq_getElem (by rw [hlen]; decide)⟩
    have h4 : DataW.trod enc Tryz.prog W 0 sp true n 9 ((cs.drop 4).take (Tryz.prog.cellsOf 9)) = some y := (hf 4 _ rfl).trans hy
    rw [cells9] at h4
    obtain ⟨s, e, ey, _⟩ := DataW.trod_string Tryz.underlying9 h4
    refine ⟨s, drop_one e, ?_⟩
    unfold DataW.weights
    rw [Tryz.underlying47]
    refine DataW.weights_mem_each (j := 4) (t := 9) (d := y.1) rfl (by simp [hy]) _ ?_
    rw [ey]
    simp [DataW.weights]
  have q5 : ∃ s : ByteArray, cs[5]? = some (.string s) ∧ s.data.toList.length ∈ DataW.weights Tryz.prog 47 (.agg (xs.map (·.1))) := by
    obtain ⟨y, hy⟩ : ∃ y, xs[5]? = some y := ⟨_, List.getElem?_eq_getElem (by rw [hlen]; decide)⟩
    have h4 : DataW.trod enc Tryz.prog W 0 sp true n 9 ((cs.drop 5).take (Tryz.prog.cellsOf 9)) = some y := (hf 5 _ rfl).trans hy
    rw [cells9] at h4
    obtain ⟨s, e, ey, _⟩ := DataW.trod_string Tryz.underlying9 h4
    refine ⟨s, drop_one e, ?_⟩
    unfold DataW.weights
    rw [Tryz.underlying47]
    refine DataW.weights_mem_each (j := 5) (t := 9) (d := y.1) rfl (by simp [hy]) _ ?_
    rw [ey]
    simp [DataW.weights]
  obtain ⟨s0, k0, w0⟩ := q0
  obtain ⟨s1, k1, w1⟩ := q1
  obtain ⟨i2, k2⟩ := q2
  obtain ⟨i3, k3⟩ := q3
  obtain ⟨s4, k4, w4⟩ := q4
  obtain ⟨s5, k5, w5⟩ := q5
  refine ⟨⟨s0, s1, i2, i3, s4, s5⟩, fun i hi => ?_, ⟨w0, w1, w4, w5⟩⟩
  obtain rfl | rfl | rfl | rfl | rfl | rfl : i = 0 ∨ i = 1 ∨ i = 2 ∨ i = 3 ∨ i = 4 ∨ i = 5 := by omega
  · exact k0
  · exact k1
  · exact k2
  · exact k3
  · exact k4
  · exact k5
theorem cells_get {W : World} {a : Addr} {n : Nat} {cs : List Value} (h : W.cells? 0 a n = some cs) (i : Nat) (hi : i < n) : W.cell? (a.add i) = cs[i]? := by
  unfold World.cells? at h
  rw [if_pos (Nat.zero_le _)] at h
  exact mapM_some_get h i i (by simp [hi])
theorem bytes33 : 1 ≤ Tryz.prog.bytesOf 47 := by decide +kernel
/-- How users and their datum go together. -/
def UserD {H : Type} (d : DataW H) (fs : List UserS) : Prop := (d = .nil ∧ fs = []) ∨ ∃ el sp, d = .slice el sp ∧ fs.length = el.length ∧ ∀ f ∈ fs, ∃ x ∈ el, WeighU f x
theorem in_users {H : Type} {enc : TypeId × Value → H} {W : World} {A : Option Addr} {n c : Nat} {d : DataW H} {p : List MemPlace} (h : DataW.Trod enc Tryz.prog W 0 (fun _ => true) true 44 (.slice A n c) d p) :
    ∃ fs : List UserS, InU W (.slice A n c) fs ∧ fs.length = n ∧ n ≤ c ∧ c ≤ maxLen ∧ UserD d fs := by
  obtain ⟨fuel, hf⟩ := h
  rcases open_slice Tryz.underlying44 hf with ⟨hcs, hx⟩ | ⟨a, len, cap, m, nn, D, Pl, hcs, _, hl, hm, hz, hx, hel⟩
  · simp [Value.cells] at hcs
    obtain ⟨rfl, rfl, rfl⟩ := hcs
    exact ⟨[], ⟨none, 0, rfl, fun j hj => absurd hj (Nat.not_lt_zero j)⟩, rfl, Nat.le_refl _, Nat.zero_le _, .inl ⟨by simpa using congrArg Prod.fst hx, rfl⟩⟩
  · simp [Value.cells] at hcs
    obtain ⟨rfl, rfl, rfl⟩ := hcs
    simp only [if_true] at hz
    have each : ∀ j, ∃ f : UserS, j < n → (∃ cs', W.cells? 0 (a.add (j * 6)) 6 = some cs' ∧ ∀ i, i < 6 → cs'[i]? = (userC f)[i]?) ∧ WeighU f (D j) := fun j => by
      by_cases hj : j < n
      · obtain ⟨cs', h1, h2⟩ := hel j (by omega)
        rw [cells33] at h1
        obtain ⟨f, hf, hw⟩ := user_cells h2
        exact ⟨f, fun _ => ⟨⟨cs', h1, hf⟩, hw⟩⟩
      · exact ⟨zeroU, fun h => absurd h hj⟩
    obtain ⟨F, hF⟩ := Classical.axiomOfChoice each
    have hlen : ((List.range n).map F).length = n := by simp
    refine ⟨(List.range n).map F, ⟨some a, c, by rw [hlen], fun j hj => ?_⟩, hlen, hl, hm, .inr ⟨_, _, congrArg Prod.fst hx, by simp, fun f hfm => ?_⟩⟩
    · rw [hlen] at hj
      obtain ⟨⟨cs', h1, h2⟩, _⟩ := hF j hj
      obtain ⟨b, off, spot⟩ := a
      obtain ⟨⟨cz, hz1, hz2⟩, _⟩ := hF 0 (by omega)
      have h00 : W.cell? (((⟨b, off, spot⟩ : Addr).add (0 * 6)).add 0) = some (.string (F 0).name) := by rw [cells_get hz1 0 (by omega), hz2 0 (by omega)]; rfl
      have hspot : spot = none := by simpa [Addr.add] using World.cell?_spot h00
      subst hspot
      refine ⟨b, off, rfl, fun i hi => ?_⟩
      have h3 := cells_get h1 i hi
      rw [add_plain, add_plain] at h3
      rw [h3, h2 i hi]
      simp
    · obtain ⟨j, hj, rfl⟩ := List.mem_map.1 hfm
      rw [List.mem_range] at hj
      exact ⟨D j, List.mem_map.2 ⟨j, List.mem_range.2 hj, rfl⟩, (hF j hj).2⟩
theorem users_len {H : Type} {ts : List TypeId} {ds : List (DataW H)} (h : (DataW.weightsEach Tryz.prog ts ds).all (· ≤ reachBytes) = true) {j : Nat} {d : DataW H} {fs : List UserS} (ht : ts[j]? = some 44) (hd : ds[j]? = some d) (hs : UserD d fs) : fs.length ≤ 140737488351232 := by
  rcases hs with ⟨_, rfl⟩ | ⟨el, sp, rfl, hl, _⟩
  · simp
  · have h1 := sized_slice h ht hd Tryz.underlying44
    have h2 := Nat.le_mul_of_pos_right (el.length + sp.length) bytes33
    simp only [reachBytes] at h1
    omega
theorem users_sized {H : Type} {ts : List TypeId} {ds : List (DataW H)} (h : (DataW.weightsEach Tryz.prog ts ds).all (· ≤ reachBytes) = true) {j : Nat} {d : DataW H} {fs : List UserS} (ht : ts[j]? = some 44) (hd : ds[j]? = some d) (hs : UserD d fs) : ∀ f ∈ fs, SzU f := by
  intro f hf
  rcases hs with ⟨_, rfl⟩ | ⟨el, sp, rfl, _, hm⟩
  · cases hf
  · obtain ⟨x, hx, hw⟩ := hm f hf
    have key : ∀ k, k ∈ x.weights Tryz.prog 47 → k ≤ 140737488351232 := fun k hk => by
      have h1 : k ∈ DataW.weights Tryz.prog 44 (.slice el sp : DataW H) := by
        unfold DataW.weights
        rw [Tryz.underlying44]
        exact List.mem_cons_of_mem _ (List.mem_append_left _ (weights_all hx hk))
      have h2 := List.all_eq_true.1 h _ (DataW.weights_mem_each ht hd _ h1)
      have h3 : k ≤ reachBytes := of_decide_eq_true h2
      exact h3
    refine ⟨?_, ?_, ?_, ?_⟩
    · rw [← sz]; exact key _ hw.name
    · rw [← sz]; exact key _ hw.pass
    · rw [← sz]; exact key _ hw.home
    · rw [← sz]; exact key _ hw.shell
end Go.Proofs.Pw
/- What the bulk of users says of their texts. -/
namespace Go.Proofs.Pw
open Go.ChangeShapes Go.WideShapes Go.ChangeAt Go.RowKit

theorem bulk_str {H : Type} {d : DataW H} {t : TypeId} (ht : t = 9 ∨ t = 3) {k : Nat} (h : k ∈ d.weights Tryz.prog t) : k ≤ YtlhlehdajkoogaaGreatDoor.Rows.uptoBulk d := by
  rcases ht with rfl | rfl
  · cases d with
    | lit l => cases l <;> simp [DataW.weights, YtlhlehdajkoogaaGreatDoor.Rows.uptoBulk] at h ⊢ <;> omega
    | _ => simp [DataW.weights, Tryz.underlying9] at h
  · cases d with
    | lit l => cases l <;> simp [DataW.weights, YtlhlehdajkoogaaGreatDoor.Rows.uptoBulk] at h ⊢ <;> omega
    | _ => simp [DataW.weights, Tryz.underlying3] at h
theorem bulk_each {H : Type} : ∀ {ts : List TypeId} {ds : List (DataW H)} {k : Nat}, (∀ t ∈ ts, t = 9 ∨ t = 3) → k ∈ DataW.weightsEach Tryz.prog ts ds → k ≤ YtlhlehdajkoogaaGreatDoor.Rows.uptoBulkAll ds
  | [], _, _, _, h => by simp [DataW.weightsEach] at h
  | _ :: _, [], _, _, h => by simp [DataW.weightsEach] at h
  | t :: ts, d :: ds, k, ht, h => by
    simp only [DataW.weightsEach, List.mem_append] at h
    simp only [YtlhlehdajkoogaaGreatDoor.Rows.uptoBulkAll]
    rcases h with h | h
    · have := bulk_str (ht t (by simp)) h; omega
    · have := bulk_each (fun t' h' => ht t' (by simp [h'])) h; omega
theorem bulk_user {H : Type} {d : DataW H} {k : Nat} (h : k ∈ d.weights Tryz.prog 47) : k ≤ YtlhlehdajkoogaaGreatDoor.Rows.uptoBulk d := by
  cases d with
  | lit l => cases l <;> simp [DataW.weights, YtlhlehdajkoogaaGreatDoor.Rows.uptoBulk] at h ⊢ <;> omega
  | agg parts =>
    simp only [DataW.weights, Tryz.underlying47] at h
    simp only [YtlhlehdajkoogaaGreatDoor.Rows.uptoBulk]
    have := bulk_each (ts := _) (by decide) h
    omega
  | _ => simp [DataW.weights, Tryz.underlying47] at h
theorem bulk_mem {H : Type} {x : DataW H} : ∀ {l : List (DataW H)}, x ∈ l → YtlhlehdajkoogaaGreatDoor.Rows.uptoBulk x ≤ YtlhlehdajkoogaaGreatDoor.Rows.uptoBulkAll l
  | [], h => by cases h
  | y :: l, h => by
    simp only [YtlhlehdajkoogaaGreatDoor.Rows.uptoBulkAll]
    rcases List.mem_cons.1 h with rfl | h
    · omega
    · have := bulk_mem h; omega
theorem users_bulk {H : Type} {d : DataW H} {fs : List UserS} (hd : UserD d fs) (h : YtlhlehdajkoogaaGreatDoor.Rows.uptoBulk d ≤ 1048576) : ∀ f ∈ fs, SzV f := by
  intro f hf
  rcases hd with ⟨_, rfl⟩ | ⟨el, sp, rfl, _, hm⟩
  · cases hf
  · obtain ⟨x, hx, hw⟩ := hm f hf
    have key : ∀ k, k ∈ x.weights Tryz.prog 47 → k ≤ 1048576 := fun k hk => by
      have h1 := bulk_user hk
      have h2 := bulk_mem hx
      simp only [YtlhlehdajkoogaaGreatDoor.Rows.uptoBulk] at h
      omega
    refine ⟨?_, ?_, ?_, ?_⟩
    · rw [← sz]; have := key _ hw.name; omega
    · rw [← sz]; have := key _ hw.pass; omega
    · rw [← sz]; exact key _ hw.home
    · rw [← sz]; exact key _ hw.shell
theorem bytes80 : Tryz.prog.bytesOf 47 = 80 := by decide +kernel
theorem users_bytes {H : Type} {ts : List TypeId} {ds : List (DataW H)} (h : (DataW.weightsEach Tryz.prog ts ds).all (· ≤ reachBytes) = true) {j : Nat} {d : DataW H} {fs : List UserS} (ht : ts[j]? = some 44) (hd : ds[j]? = some d) (hs : UserD d fs) : fs.length * 80 ≤ 140737488351232 := by
  rcases hs with ⟨_, rfl⟩ | ⟨el, sp, rfl, hl, _⟩
  · simp
  · have h1 := sized_slice h ht hd Tryz.underlying44
    rw [bytes80] at h1
    simp only [reachBytes] at h1
    omega
end Go.Proofs.Pw
/- What the laid variables give the walks. -/
namespace Go.Proofs.YtlhlehdajkoogaaGreatDoor
open Go.RowKit

theorem laid_tail {P : Program} {W : World} {x : String × DataW Unit} {rest : List (String × DataW Unit)} (h : laidMet P (x :: rest) W) : laidMet P rest W := by
  obtain ⟨ps, hv, hnd, hm⟩ := h
  obtain ⟨g, t, cs, fuel, p, q, h1, h2, h3, h4, h5, rfl⟩ := hv
  exact ⟨q, h5, (List.nodup_append.1 hnd).2.1, fun b off hb => hm b off (List.mem_append_right _ hb)⟩
theorem err_cell {W : World} {name : String} {d : DataW Unit} {rest : List (String × DataW Unit)} {g : Nat} (h : laidMet Tryz.prog ((name, d) :: rest) W) (hg : Tryz.prog.globalNamed name = some g) (ht : (Tryz.prog.globals[g]?).map (·.type) = some 134) {n : String} {e : DataW Unit} (hd : d = .iface n e) :
    ∃ u v, W.cell? ⟨g, 0, none⟩ = some (.iface u v) := by
  obtain ⟨ps, ⟨g', t', cs, fuel, p, q, hg', ht', hv, hd', _⟩, _⟩ := h
  obtain rfl := Option.some.inj (hg.symm.trans hg')
  obtain rfl := Option.some.inj (ht.symm.trans ht')
  subst hd
  obtain ⟨f2, u, v, hcs, _, _⟩ := iface_of_trod Tryz.underlying134 hd'
  refine ⟨u, v, ?_⟩
  rw [World.var?_cell hg hv 0]
  have : cs.toList[0]? = some (.iface u v) := by rw [hcs]; rfl
  simpa using this
set_option maxRecDepth 100000 in
theorem has_w {W : World} (h : laidMetH Tryz.prog tables W) (hS : W.ShapedOpen Tryz.prog) : Pw.HasW W := by
  rw [MakeChecks.laidMetH_plain _ _ _ (by kernel_rfl)] at h
  have h3 := laid_tail (laid_tail h)
  have h5 := laid_tail (laid_tail h3)
  have h6 := laid_tail h5
  refine ⟨Tryz.laysM146.s1_3 W hS, err_cell h6 (by kernel_rfl) (by kernel_rfl) rfl, err_cell h5 (by kernel_rfl) (by kernel_rfl) rfl, ?_⟩
  exact Lib.tabIs_of_head (g := 3) (by kernel_rfl) (by kernel_rfl) Tryz.underlying208 (by kernel_rfl) (by kernel_rfl) (by kernel_rfl) h3
end Go.Proofs.YtlhlehdajkoogaaGreatDoor
/- A number that came in lies within its kind's range. -/

namespace Go.Proofs.YtlhlehdajkoogaaGreatDoor
open Go.RowKit

theorem laidOut : laidOutB Tryz.prog = true := by kernel_rfl
theorem int_range {n : Int} (h : (Lit.int .i64 n).wf = true) : -9223372036854775808 ≤ n ∧ n ≤ 9223372036854775807 := by
  unfold Lit.wf at h
  simp at h
  have e : IntKind.i64.min = -9223372036854775808 := by decide
  rw [e] at h
  exact h
end Go.Proofs.YtlhlehdajkoogaaGreatDoor
/- The laid table that the mixing wants. -/
namespace Go.Proofs.YtlhlehdajkoogaaGreatDoor
open Go.RowKit

set_option maxRecDepth 100000 in
/-- What the listed variables hold, as the walks want it. -/
theorem tab_cell {W : World} (h : laidMetH Tryz.prog tables W) : Mz.HasT W := by
  rw [MakeChecks.laidMetH_plain _ _ _ (by kernel_rfl)] at h
  obtain ⟨ps, ⟨_, _, _, _, _, _, _, _, _, _, ⟨g, t, cs, fuel, p, q, hg, ht, hv, hd, _⟩, _⟩, _⟩ := h
  obtain rfl := Option.some.inj ((show Tryz.prog.globalNamed "math/bits.deBruijn64tab" = some 7 by kernel_rfl).symm.trans hg)
  obtain rfl := Option.some.inj ((show (Tryz.prog.globals[7]?).map (·.type) = some 232 by kernel_rfl).symm.trans ht)
  obtain ⟨xs, m, _, ex, _, hl, hel⟩ := DataW.trod_array Tryz.underlying232 hd
  have c5 : Tryz.prog.cellsOf 5 = 1 := by kernel_rfl
  have hE := hel 15 (by decide)
  rw [c5, Nat.mul_one, List.getElem?_eq_getElem (by omega)] at hE
  obtain ⟨z, e1, e2, _⟩ := DataW.trod_int Tryz.underlying5 hE
  have e3 := (DataW.agg.inj (Prod.mk.inj ex).1).symm
  have e4 := congrArg (fun l : List (DataW Unit) => l[15]?) e3
  simp only [List.getElem?_map, List.getElem?_eq_getElem (by omega : 15 < xs.length), Option.map_some] at e4
  rw [e2] at e4
  have hz : z = 4 := by
    have h5 : (some (DataW.lit (.int .u8 z)) : Option (DataW Unit)) = some (DataW.lit (.int .u8 4)) := e4
    simp only [Option.some.injEq, DataW.lit.injEq, Lit.int.injEq, true_and] at h5
    exact h5
  show W.cell? ⟨7, 15, none⟩ = _
  rw [World.var?_cell hg hv 15, ← hz]
  have : cs.toList[15]? = some (.int .u8 z) := by
    have h0 : ((cs.toList.drop 15).take 1)[0]? = some (.int .u8 z) := by rw [e1]; rfl
    simpa using h0
  simpa using this
end Go.Proofs.YtlhlehdajkoogaaGreatDoor
namespace Go.Proofs.YtlhlehdajkoogaaGreatDoor.loginChecks
open Go.ChangeShapes Go.WideShapes Go.ChangeAt Go.RowKit
open Go.ChangeMaps (open_string shut_string)
set_option linter.unusedVariables false

theorem reads (os : Os) {H : Type} (enc : TypeId × Value → H) : ∃ places, DataW.whole enc Tryz.prog ((laidWorld os).forCall (fun _ _ => 0) ⟨#[], #[.slice none 0 0, .string ByteArray.empty, .string ByteArray.empty], []⟩).memory Tryz.f4.params.toList (Rows.OpenSpec.upto Rows.loginChecksSpec).vars false (#[Value.slice none 0 0, Value.string ByteArray.empty, Value.string ByteArray.empty]).toList 8 = some ([.nil, .lit (.string []), .lit (.string [])], [], places) :=
  ⟨[], by kernel_rfl⟩

set_option maxHeartbeats 2000000 in
set_option maxRecDepth 100000 in
theorem lifted (os : Os) (started : os.Started) (H : Type) (enc : TypeId × Value → H) (F : Stop.Interp) :
    ReturnsInHanded {} Tryz.checked os 4 .any ((Rows.OpenSpec.upto Rows.loginChecksSpec).preRow enc Tryz.prog Tryz.f4 Rows.loginChecksUptoRow.domain false Rows.loginChecksUptoRow.laid) (((Rows.OpenSpec.upto Rows.loginChecksSpec).at F).post enc Tryz.prog Tryz.f4 false true false false) := by
  obtain ⟨places, hx⟩ := reads os enc
  refine returnsInHanded_of_row (C := Tryz.checked) (s := Rows.OpenSpec.upto Rows.loginChecksSpec) own started (by kernel_rfl) Tryz.func4
    (witness_row_at (enc := enc) (C := Tryz.checked) false (laidWorld os) #[.slice none 0 0, .string ByteArray.empty, .string ByteArray.empty] rfl (by kernel_rfl) (by kernel_rfl) (by kernel_rfl)
      (OpenSpec.preRow_of_cond 8 hx (by kernel_rfl) (fun k hk => by cases hk; kernel_rfl) (by kernel_rfl) (laid_met os _))) ?_
  intro W base args ds gs before hval0 hW _ hcond hsz0 hL hSh _
  have hval : ∀ (j : Nat) t v, Tryz.f4.params[j]? = some t → args[j]? = some v → Value.okWide Tryz.prog W .any base t v := hval0
  have hW' := hW
  obtain ⟨p, q, hA0, hV, rfl, hfz, hnd⟩ := hW
  have hA : DataW.TrodAll enc Tryz.prog W 0 (fun _ => true) true Tryz.f4.params.toList args.toList ds p := hA0
  have hsz : (DataW.weightsEach Tryz.prog (Tryz.f4.params.toList ++ (Rows.OpenSpec.upto Rows.loginChecksSpec).bare.plain.varTypes Tryz.prog) (ds ++ gs)).all (· ≤ reachBytes) = true := hsz0
  rw [Tryz.params4] at hA hval hsz
  obtain ⟨v0, vs0, d0, ds0, p0, q0, hargs, rfl, rfl, h0, r0q⟩ := trodAll_cons hA
  obtain ⟨v1, vs1, d1, ds1, p1, q1, rfl, rfl, rfl, h1, r1q⟩ := trodAll_cons r0q
  obtain ⟨v2, vs2, d2, ds2, p2, q2, rfl, rfl, rfl, h2, r2q⟩ := trodAll_cons r1q
  obtain ⟨rfl, rfl, rfl⟩ := trodAll_nil r2q
  obtain rfl : args = #[v0, v1, v2] := by cases args; simp_all
  obtain ⟨rfl, rfl⟩ := trodVars_none hV
  obtain ⟨A0, n0, c0, rfl⟩ := okWide_slice Tryz.underlying44 (hval 0 44 v0 rfl rfl)
  obtain ⟨L0, hL0, hlen0, hcap0, hmax0, hd0⟩ := Pw.in_users h0
  have hs0 := Pw.users_sized hsz (j := 0) rfl rfl hd0
  have hn0 := Pw.users_len hsz (j := 0) rfl rfl hd0
  obtain ⟨a1, rfl, rfl, rfl, w1⟩ := open_string Tryz.underlying9 (hval 1 9 v1 rfl rfl) h1
  have r1 : a1.size ≤ 140737488351232 := by have h := sized_string hsz (j := 1) (t := 9) rfl rfl; simp only [reachBytes, Array.length_toList] at h; exact h
  obtain ⟨a2, rfl, rfl, rfl, w2⟩ := open_string Tryz.underlying9 (hval 2 9 v2 rfl rfl) h2
  have r2 : a2.size ≤ 140737488351232 := by have h := sized_string hsz (j := 2) (t := 9) rfl rfl; simp only [reachBytes, Array.length_toList] at h; exact h
  clear hA0 hval0
  have hu := hcond _ rfl
  simp only [List.append_nil, List.nil_append] at hW'
  subst hlen0
  refine (checks_law (.slice A0 L0.length c0) L0 a1 a2 W hL0 hn0 (Pw.users_bulk hd0 (by have h := of_decide_eq_true hu; simp [Rows.uptoBulkAll] at h; omega)) (has_w hL hSh) (tab_cell hL) r1 r2).mono fun e W' ⟨he, bel⟩ => ?_
  subst he
  have hlt : ∀ x, x ∈ p0 → x.block < W.heap.size := fun x hx => by
    have := hW'.lt x (by simpa using hx)
    simpa using this
  exact ⟨_, rfl, _, _, _, [], _, [], hW', trodAll_mk1 (shut_bool Tryz.underlying4 _), (trodAll_cons_mk (Below.trod laidOut (by kernel_rfl) (of_decide_eq_true (by kernel_rfl)) h0 bel (fun x hx => hlt x hx)) (trodAll_cons_mk (shut_string Tryz.underlying9 w1) (trodAll_cons_mk (shut_string Tryz.underlying9 w2) trodAll_mk0))), rfl, bel.frame _, fun h => by cases h⟩

theorem said : Rows.LoginChecksUptoSaid :=
  OpenClaim.holds_of_cond 4 Tryz.f4 rfl rfl rfl rfl rfl rfl rfl ⟨rfl, rfl, rfl, rfl, rfl⟩ rfl rfl rfl rfl rfl (by kernel_rfl) Tryz.func4 (by kernel_rfl)
    (of_decide_eq_true (by kernel_rfl)) (by unfold Func.isWrapper; first | (rw [if_pos (by decide +kernel)]; kernel_rfl) | (rw [if_neg (by decide +kernel)]; exact ⟨rfl, rfl⟩))
    (fun os started H enc _ F => by rw [OpenClaim.pre_eq_preRow]; exact lifted os started H enc F)

theorem plain (f : FuncId) (fn : Func) (hf : Tryz.pinned.checked.prog.funcNamed Rows.loginChecksUptoRow.func = some f) (hfn : Tryz.pinned.checked.prog.funcs[f]? = some fn) :
    true = Tryz.pinned.checked.prog.looks [] ∧ ∀ (j : Nat) t, fn.params[j]? = some t → Tryz.pinned.checked.prog.wantsStandIn t = false := by
  obtain rfl : f = 4 := Option.some.inj ((show Tryz.prog.funcNamed Rows.loginChecksUptoRow.func = some 4 by kernel_rfl).symm.trans hf) |>.symm
  obtain rfl : fn = Tryz.f4 := (Option.some.inj (Tryz.func4.symm.trans hfn)).symm
  refine ⟨by kernel_rfl, fun j t ht => ?_⟩
  rw [Tryz.params4] at ht
  have ht' := Array.mem_of_getElem? ht
  have hall : ∀ t : TypeId, t ∈ #[44, 9, 9] → Tryz.prog.wantsStandIn t = false := by
    intro t h
    simp only [List.mem_toArray, List.mem_cons, List.mem_nil_iff, or_false] at h
    rcases h with rfl | rfl | rfl <;> kernel_rfl
  exact hall t ht'

/-- The card. -/
theorem proved : Rows.LoginChecksUptoCardSaid :=
  Claim7.holds_tied_plain_at .later [] _ _ _ _ said (fun _ h => by cases h) (by kernel_rfl) (fun _ h => by cases h) loginChecksUpto_row_tie rfl ⟨rfl, rfl⟩ (by kernel_rfl) rfl plain (by kernel_rfl)
#print axioms proved
end Go.Proofs.YtlhlehdajkoogaaGreatDoor.loginChecks
