/- Finds: who has a name, who a number, and another password. -/
import Derived.Test.YtmfbmjnoepcigaaGreatDoorRc
import Derived.Test.YtmfbmjnoepcigaaGreatDoorV
namespace Go.Proofs.YtmfbmjnoepcigaaGreatDoor
open Go.RowKit

def fU (p : UserS → Bool) (L : List UserS) : UserS := (L.find? p).getD zeroU
def fOk (p : UserS → Bool) (L : List UserS) : Bool := (L.find? p).isSome
theorem found_is {p : UserS → Bool} {L : List UserS} {w w' : World} {e : Ending} (h : FoundP p L w e w') : e = .returned (.tuple #[.agg (userC (fU p L)), .bool (fOk p L)]) ∧ Below w.heap.size w w' := by
  obtain ⟨hb, ⟨k, hk, h1, h2, rfl⟩ | ⟨h1, rfl⟩⟩ := h
  · have hf : L.find? p = some L[k] := List.find?_eq_some_iff_getElem.2 ⟨h1, k, hk, rfl, fun j hj => by rw [h2 j hj]; rfl⟩
    unfold fU fOk
    rw [hf]
    exact ⟨rfl, hb⟩
  · have hf : L.find? p = none := List.find?_eq_none.2 fun x hx => by rw [h1 x hx]; decide
    unfold fU fOk
    rw [hf]
    exact ⟨rfl, hb⟩
def ChgQ (x p : ByteArray) (L M : List UserS) (ok : Bool) : Prop := (ok = true ∧ ∃ k : Nat, ∃ h : k < L.length, findU (isName x) L 0 = k ∧ M = L.set k (passU p L[k])) ∨ (ok = false ∧ findU (isName x) L 0 = -1 ∧ M = [])
theorem chg_det {x p : ByteArray} {L M N : List UserS} {a b : Bool} (h : ChgQ x p L M a) (g : ChgQ x p L N b) : M = N ∧ a = b := by
  rcases h with ⟨rfl, k, hk, h1, rfl⟩ | ⟨rfl, h1, rfl⟩ <;> rcases g with ⟨rfl, j, hj, g1, rfl⟩ | ⟨rfl, g1, rfl⟩
  · obtain rfl : k = j := by omega
    exact ⟨rfl, rfl⟩
  · omega
  · omega
  · exact ⟨rfl, rfl⟩
theorem chg_len {x p : ByteArray} {L M : List UserS} {a : Bool} (h : ChgQ x p L M a) : M.length ≤ L.length := by
  rcases h with ⟨_, k, hk, h1, rfl⟩ | ⟨_, h1, rfl⟩
  · rw [List.length_set]; exact Nat.le_refl _
  · simp
theorem chg_form {x p : ByteArray} {L : List UserS} {w w' : World} {e : Ending} (h : ChangeP x p L w e w') : ∃ (a : Option Addr) (c : Nat) (M : List UserS) (ok : Bool), e = .returned (.tuple #[.slice a M.length c, .bool ok]) ∧ OwnU w' w.heap.size (.slice a M.length c) M ∧ Below w.heap.size w w' ∧ ChgQ x p L M ok := by
  obtain ⟨hb, ⟨k, hk, h1, h2, v, rfl, ho⟩ | ⟨h1, rfl⟩⟩ := h
  · obtain ⟨a, c, rfl⟩ := ho.form
    exact ⟨a, c, _, true, rfl, ho, hb, .inl ⟨rfl, k, hk, findU_first hk h1 h2, rfl⟩⟩
  · exact ⟨none, 0, [], false, rfl, ⟨rfl, .inl ⟨rfl, rfl⟩⟩, hb, .inr ⟨rfl, findU_none' h1, rfl⟩⟩
def qU : UserS := ⟨⟨#[63]⟩, ⟨#[]⟩, 0, 0, ⟨#[]⟩, ⟨#[]⟩⟩
set_option maxHeartbeats 8000000 in
set_option maxRecDepth 100000 in
theorem finds_law (a : Option Addr) (c : Nat) (L : List UserS) (x : ByteArray) (id : Int) (ps : ByteArray) (w : World) (hF : InU w (.slice a L.length c) L) (hc : L.length ≤ c) (hcm : c ≤ 9223372036854775807) (hW : HasW w) :
    Calls Tryz.prog 5 #[.slice a L.length c, .string x, .int .i64 id, .string ps] w fun e w' => e = .returned (.bool true) ∧ Below w.heap.size w w' := by
  have HS := Lib.hid (shown_any w hW)
  have HF := Lib.hid hF
  have HC := Lib.hid (And.intro hc hcm)
  clear hF hW hc hcm
  go_enter Tryz.func5, Tryz.ntmps5
  go_wp2_with fail
  refine HS.out.mono ?_
  rintro e w1 ⟨rfl, hb⟩
  have HB1 := Lib.hid hb
  clear hb HS
  go_upto_if 29 with fail
  go_cut [0] from 27 to 31 (fun v0 wx => wx = w1 ∧ ∃ M : List UserS, v0 = .slice a M.length c ∧ M = L.take 1000)
  case first =>
    by_cases h : 1000 < L.length
    · have h1 : (1000 : Int) < L.length := by omega
      have hc1 : (1000 : Int) ≤ c := by have := HC.out.1; omega
      have hc2 : (c : Int) ≤ 9223372036854775807 := by have := HC.out.2; omega
      obtain ⟨b, off, rfl, hu⟩ := HF.out.uc HB1.out (k := 0) (by omega)
      have HT : Hid ((1000 : Nat) = (L.take 1000).length) := Lib.hid (by rw [List.length_take]; omega)
      clear hu h
      go_wp2
      go_meet
      refine ⟨rfl, L.take 1000, ?_, rfl⟩
      rw [← HT.out]
    · have h1 : ¬ (1000 : Int) < L.length := by omega
      have HT : Hid (L.take 1000 = L) := Lib.hid (List.take_of_length_le (by omega))
      clear h
      go_wp2
      go_meet
      refine ⟨rfl, L.take 1000, ?_, rfl⟩
      rw [HT.out]
  case rest =>
    obtain ⟨hwx, M, rfl, hM⟩ := hcut
    subst hwx
    have HM : Hid (InU wc (.slice a M.length c) M) := Lib.hid (by rw [hM]; exact (HF.out.below HB1.out).take 1000)
    have hM1 : M.length ≤ 1000 := by rw [hM, List.length_take]; omega
    have HLN := Lib.hid hM1
    clear hM hM1 HF HC
    obtain ⟨i0, hi, hz0, hz1, hz4⟩ := info_parts info33
    go_upto_region 4 with fail
    go_cut [10] from 32 to 35 (fun v10 wx => Below wc.heap.size wc wx ∧ OwnU wx wc.heap.size v10 M)
    case first =>
      cases a with
      | none =>
        have hl := HM.out.none_nil
        subst hl
        go_wp2
        go_meet
        exact ⟨(Below.refl _ _).alloc (Nat.le_refl _) _, World.ownsRow_made wc #[] 0 (Nat.le_refl _) (by unfold maxLen; omega) rfl⟩
      | some a =>
        go_wp2_with (at_builtin; refine wpList_append_own _ rfl _ _ 23 rfl wc.heap.size 29 i0 (.agg (userC zeroU)) 6 80 Tryz.underlying23 hi hz0 hz1 hz4 rfl (by decide) _ _ _ rfl (World.ownsRow_made _ #[] 0 (Nat.le_refl _) (by unfold maxLen; omega) rfl) a M.length c (cellsU M) rfl (cellsU_len M) (fun j u hj => inU_cells (HM.out.below ((Below.refl _ _).alloc (Nat.le_refl _) _)) j u hj) (cells_one M) (by unfold maxLen; have := HLN.out; omega) (by have := HLN.out; omega) (by simp) ?_; intro v' w6 hown' hgrow _)
        have HO : Hid (OwnU w6 wc.heap.size v' M) := Lib.hid (by unfold OwnU; rw [Nat.zero_add, List.nil_append] at hown'; exact hown')
        have HB := Lib.hid (below_grown ((Below.refl wc.heap.size wc).alloc (Nat.le_refl _) _) (Nat.le_refl _) hgrow (fun k hk => Nat.le_of_eq (Option.some.inj hk)))
        clear hown' hgrow
        go_wp2
        go_meet
        exact ⟨HB.out, HO.out⟩
    case rest =>
      obtain ⟨hb2, ho2⟩ := hcut
      obtain ⟨ao, co, rfl⟩ := ho2.form
      have HB2 := Lib.hid (HB1.out.trans (hb2.mono HB1.out.size))
      have HM2 := Lib.hid (HM.out.below hb2)
      have HN2 := Lib.hid (own_inU ho2)
      have HL1 := Lib.hid (show M.length ≤ 140737488355328 by have := HLN.out; omega)
      clear hb2 ho2 hi hz0 hz1 hz4 HM HB1
      have HD1 : Hid (∀ w e w', FoundP (isName x) M w e w' → e = .returned (.tuple #[.agg (userC (fU (isName x) M)), .bool (fOk (isName x) M)]) ∧ Below w.heap.size w w') := Lib.hid fun _ _ _ h => found_is h
      have HD2 : Hid (∀ w e w', FoundP (isId id) M w e w' → e = .returned (.tuple #[.agg (userC (fU (isId id) M)), .bool (fOk (isId id) M)]) ∧ Below w.heap.size w w') := Lib.hid fun _ _ _ h => found_is h
      generalize fU (isName x) M = f1 at HD1
      generalize fU (isId id) M = f2 at HD2
      generalize fOk (isName x) M = k1 at HD1
      generalize fOk (isId id) M = k2 at HD2
      have HC := Lib.hid (find_any _ M x wc HN2.out HL1.out)
      go_wp2_with fail
      refine HC.out.mono ?_
      rintro e wa0 hf
      obtain ⟨rfl, hb⟩ := HD1.out _ _ _ hf
      have hbx : Below wa0.heap.size wa0 (wa0.alloc (.cells (userC f1) 29)) := (Below.refl _ _).alloc (Nat.le_refl _) _
      have hux : UC (wa0.alloc (.cells (userC f1) 29)) wa0.heap.size 0 f1 := box_six (u := 29) (Below.refl _ _)
      have hbb := hb.trans (hbx.mono hb.size)
      have HB3 := Lib.hid (HB2.out.trans (hbb.mono HB2.out.size))
      have HM3 := Lib.hid (HM2.out.below hbb)
      have HN3 := Lib.hid (HN2.out.below hbb)
      have HU0_3 := Lib.hid hux
      clear hf hb hbx hux hbb HC HB2 HM2 HN2
      unfold userC at *
      go_upto_region 6 with fail
      generalize wa0.alloc (.cells #[.string f1.name, .string f1.pass, .int .i64 f1.id, .int .i64 f1.group, .string f1.home, .string f1.shell] 29) = wb0 at *
      generalize wa0.heap.size = nb0 at *
      have HC := Lib.hid (rfind_any _ M x wb0 HM3.out HL1.out)
      go_wp2_with fail
      refine HC.out.mono ?_
      rintro e wa1 hf
      obtain ⟨rfl, hb⟩ := HD1.out _ _ _ hf
      have hbx : Below wa1.heap.size wa1 (wa1.alloc (.cells (userC f1) 29)) := (Below.refl _ _).alloc (Nat.le_refl _) _
      have hux : UC (wa1.alloc (.cells (userC f1) 29)) wa1.heap.size 0 f1 := box_six (u := 29) (Below.refl _ _)
      have hbb := hb.trans (hbx.mono hb.size)
      have HB4 := Lib.hid (HB3.out.trans (hbb.mono HB3.out.size))
      have HM4 := Lib.hid (HM3.out.below hbb)
      have HN4 := Lib.hid (HN3.out.below hbb)
      have HU0_4 := Lib.hid (HU0_3.out.below hbb)
      have HU1_4 := Lib.hid hux
      clear hf hb hbx hux hbb HC HB3 HM3 HN3 HU0_3
      unfold userC at *
      go_upto_region 7 with fail
      generalize wa1.alloc (.cells #[.string f1.name, .string f1.pass, .int .i64 f1.id, .int .i64 f1.group, .string f1.home, .string f1.shell] 29) = wb1 at *
      generalize wa1.heap.size = nb1 at *
      have HC := Lib.hid (of_any _ M id wb1 HN4.out HL1.out)
      go_wp2_with fail
      refine HC.out.mono ?_
      rintro e wa2 hf
      obtain ⟨rfl, hb⟩ := HD2.out _ _ _ hf
      have hbx : Below wa2.heap.size wa2 (wa2.alloc (.cells (userC f2) 29)) := (Below.refl _ _).alloc (Nat.le_refl _) _
      have hux : UC (wa2.alloc (.cells (userC f2) 29)) wa2.heap.size 0 f2 := box_six (u := 29) (Below.refl _ _)
      have hbb := hb.trans (hbx.mono hb.size)
      have HB5 := Lib.hid (HB4.out.trans (hbb.mono HB4.out.size))
      have HM5 := Lib.hid (HM4.out.below hbb)
      have HN5 := Lib.hid (HN4.out.below hbb)
      have HU0_5 := Lib.hid (HU0_4.out.below hbb)
      have HU1_5 := Lib.hid (HU1_4.out.below hbb)
      have HU2_5 := Lib.hid hux
      clear hf hb hbx hux hbb HC HB4 HM4 HN4 HU0_4 HU1_4
      unfold userC at *
      go_upto_region 8 with fail
      generalize wa2.alloc (.cells #[.string f2.name, .string f2.pass, .int .i64 f2.id, .int .i64 f2.group, .string f2.home, .string f2.shell] 29) = wb2 at *
      generalize wa2.heap.size = nb2 at *
      have HC := Lib.hid (rof_any _ M id wb2 HM5.out HL1.out)
      go_wp2_with fail
      refine HC.out.mono ?_
      rintro e wa3 hf
      obtain ⟨rfl, hb⟩ := HD2.out _ _ _ hf
      have hbx : Below wa3.heap.size wa3 (wa3.alloc (.cells (userC f2) 29)) := (Below.refl _ _).alloc (Nat.le_refl _) _
      have hux : UC (wa3.alloc (.cells (userC f2) 29)) wa3.heap.size 0 f2 := box_six (u := 29) (Below.refl _ _)
      have hbb := hb.trans (hbx.mono hb.size)
      have HB6 := Lib.hid (HB5.out.trans (hbb.mono HB5.out.size))
      have HM6 := Lib.hid (HM5.out.below hbb)
      have HN6 := Lib.hid (HN5.out.below hbb)
      have HU0_6 := Lib.hid (HU0_5.out.below hbb)
      have HU1_6 := Lib.hid (HU1_5.out.below hbb)
      have HU2_6 := Lib.hid (HU2_5.out.below hbb)
      have HU3_6 := Lib.hid hux
      clear hf hb hbx hux hbb HC HB5 HM5 HN5 HU0_5 HU1_5 HU2_5
      unfold userC at *
      go_upto_region 9 with fail
      generalize wa3.alloc (.cells #[.string f2.name, .string f2.pass, .int .i64 f2.id, .int .i64 f2.group, .string f2.home, .string f2.shell] 29) = wb3 at *
      generalize wa3.heap.size = nb3 at *
      have HC := Lib.hid (change_any _ M x ps wb3 HN6.out HLN.out)
      go_wp2_with fail
      refine HC.out.mono ?_
      rintro e wa4 hf
      obtain ⟨a4, c4, M4, k4, rfl, ho, hb, hq⟩ := chg_form hf
      have HQ4 := Lib.hid hq
      have HB7 := Lib.hid (HB6.out.trans (hb.mono HB6.out.size))
      have HM7 := Lib.hid (HM6.out.below hb)
      have HN7 := Lib.hid (HN6.out.below hb)
      have HU0_7 := Lib.hid (HU0_6.out.below hb)
      have HU1_7 := Lib.hid (HU1_6.out.below hb)
      have HU2_7 := Lib.hid (HU2_6.out.below hb)
      have HU3_7 := Lib.hid (HU3_6.out.below hb)
      have HO4_7 := Lib.hid ho
      have HP7 := Lib.hid hb
      clear hf hb hq ho HC
      have HC := Lib.hid (rchange_any _ M x ps wa4 HM7.out HLN.out)
      go_wp2_with fail
      refine HC.out.mono ?_
      rintro e wa5 hf
      obtain ⟨a5, c5, M5, k5, rfl, ho, hb, hq⟩ := chg_form hf
      have HQ5 := Lib.hid hq
      have HB8 := Lib.hid (HB7.out.trans (hb.mono HB7.out.size))
      have HM8 := Lib.hid (HM7.out.below hb)
      have HN8 := Lib.hid (HN7.out.below hb)
      have HU0_8 := Lib.hid (HU0_7.out.below hb)
      have HU1_8 := Lib.hid (HU1_7.out.below hb)
      have HU2_8 := Lib.hid (HU2_7.out.below hb)
      have HU3_8 := Lib.hid (HU3_7.out.below hb)
      have HO4_8 := Lib.hid (HO4_7.out.grown (hb.mono (Nat.le_refl _)))
      have HI5 := Lib.hid (own_inU ho)
      have HSZ := Lib.hid hb.size
      have HP8 := Lib.hid (HP7.out.trans (hb.mono HP7.out.size))
      clear hf hb hq ho HC
      have hde := chg_det HQ4.out HQ5.out
      obtain ⟨rfl, rfl⟩ := hde
      have hM4 := chg_len HQ4.out
      have HL4 := Lib.hid hM4
      clear hM4 HQ4 HQ5
      have HC := Lib.hid (same_any _ _ M4 M4 wa5 (own_inU HO4_8.out) HI5.out (by have := HL4.out; have := HLN.out; omega) (by have := HL4.out; have := HLN.out; omega))
      go_wp2_with fail
      refine HC.out.mono ?_
      rintro e wa6 ⟨rfl, hb⟩
      have HB9 := Lib.hid (HB8.out.trans (hb.mono HB8.out.size))
      have HM9 := Lib.hid (HM8.out.below hb)
      have HN9 := Lib.hid (HN8.out.below hb)
      have HO4_9 := Lib.hid (HO4_8.out.grown hb)
      have HU0_9 := Lib.hid (HU0_8.out.below hb)
      have HU1_9 := Lib.hid (HU1_8.out.below hb)
      have HU2_9 := Lib.hid (HU2_8.out.below hb)
      have HU3_9 := Lib.hid (HU3_8.out.below hb)
      have hdd : decide True = true := rfl
      rw [hdd]
      have HP9 := Lib.hid (HP8.out.trans (hb.mono HP8.out.size))
      clear hb HC HB7 HB8 HB9 HM7 HM8 HM9 HN7 HN8 HN9 HO4_7 HO4_8 HI5 HSZ HP7 HP8
      clear HU0_7 HU0_8 HU0_9
      clear HU1_7 HU1_8 HU1_9
      clear HU2_7 HU2_8 HU2_9
      clear HU3_7 HU3_8 HU3_9
      go_wp2
      have hml : (M4.length : Int) ≤ 1000 := by have := HL4.out; have := HLN.out; omega
      go_loopw [24] (fun v24 wr => ∃ (k : Nat) (N : List UserS), k ≤ M4.length ∧ v24 = .int .i64 k ∧ N.length = M4.length ∧ Hid (Below wb3.heap.size wb3 wr ∧ OwnU wr wb3.heap.size (.slice a4 N.length c4) N)) (fun v24 _ => M4.length - (intOf v24).toNat)
      case atStart => exact ⟨0, M4, Nat.zero_le _, rfl, rfl, Lib.hid ⟨HP9.out, HO4_9.out⟩⟩
      case round =>
        obtain ⟨k, N, hk, rfl, hN, HH⟩ := hrel
        by_cases hlt : k < M4.length
        · have hlt1 : (k : Int) < M4.length := by omega
          obtain ⟨g, rfl, hg, ⟨g0, g1, g2, g3, g4, g5⟩, ⟨z0, z1, z2, z3, z4, z5⟩, hst⟩ := own_user HH.out.2 (k := k) (by omega)
          have HX : Hid (Below wb3.heap.size wb3 (sixAt wr g (k * 6) qU) ∧ OwnU (sixAt wr g (k * 6) qU) wb3.heap.size (.slice (some ⟨g, 0, none⟩) (N.set k qU).length c4) (N.set k qU)) := Lib.hid ⟨sixAt_below HH.out.1 hg _ _, by have := hst qU; rw [List.length_set]; exact this⟩
          have HNN := Lib.hid hN
          generalize N[k]'(by omega) = fk at *
          clear hst hN
          go_wp2
          go_roundw
          case rel => exact ⟨k + 1, N.set k qU, by omega, by go_num, by rw [List.length_set]; exact HNN.out, HX⟩
          case measure => simp [intOf]; omega
        · have hlt1 : ¬ (k : Int) < M4.length := by omega
          have HC := Lib.hid (same_any _ _ M M wr (HN6.out.below HH.out.1) (HM6.out.below HH.out.1) HL1.out HL1.out)
          clear hN hk hlt
          go_wp2_with fail
          refine HC.out.mono ?_
          rintro e wz ⟨rfl, hb⟩
          have hbz := HH.out.1.trans (hb.mono HH.out.1.size)
          have HBz := Lib.hid (HB6.out.trans (hbz.mono HB6.out.size))
          obtain ⟨g0, g1, g2, g3, g4, g5⟩ := HU0_6.out.below hbz
          obtain ⟨i0, i1, i2, i3, i4, i5⟩ := HU1_6.out.below hbz
          obtain ⟨j0, j1, j2, j3, j4, j5⟩ := HU2_6.out.below hbz
          obtain ⟨l0, l1, l2, l3, l4, l5⟩ := HU3_6.out.below hbz
          have heq1 : ∀ W, _ := fun W => eq_users f1 f1 W (decide_eq_true rfl)
          have heq2 : ∀ W, _ := fun W => eq_users f2 f2 W (decide_eq_true rfl)
          have hgd := guard33
          rw [hdd]
          clear hb hbz HC HD1 HD2
          cases k1 <;> cases k2 <;> cases k4 <;> (go_wp2; go_ret; exact ⟨rfl, HBz.out⟩)
end Go.Proofs.YtmfbmjnoepcigaaGreatDoor
