/- A line is read: the walk. -/
import Derived.Test.YtmfbmjnoepcigaaGreatDoorL
namespace Go.Proofs.YtmfbmjnoepcigaaGreatDoor
open Go.RowKit

set_option maxHeartbeats 16000000 in
set_option maxRecDepth 100000 in
theorem read_any (s : ByteArray) (w : World) (hs : s.size ≤ 1000000) (hW : HasW w) : Calls Tryz.prog 22 #[.string s] w (ReadP s w) := by
  have HW := Lib.hid hW
  have HSZ := Lib.hid hs
  have hb0 : Below w.heap.size w (w.alloc (.cells (userC zeroU) 29)) := (Below.refl _ _).alloc (Nat.le_refl _) _
  obtain ⟨m, hm⟩ := (hW.below hb0).max
  have HSP := Lib.hid (Tryz.strings_Split s ⟨#[58]⟩ m (w.alloc (.cells (userC zeroU) 29)) (by omega) hm (by decide))
  have HX := Lib.hid (fun x (hx : x ∈ pieces s) => Nat.le_trans (piece_size ⟨#[58]⟩ _ s x hx) hs)
  have HB0 := Lib.hid hb0
  have hh0 := at_new w (.cells (userC zeroU) 29)
  have HH0 := Lib.hid hh0
  clear hW hs hb0 hm hh0
  go_enter Tryz.func22, Tryz.ntmps22
  go_wp2_with fail
  refine HSP.out.mono ?_
  rintro e w1 ⟨rfl, hw1⟩
  have hlen := pieces_len s
  have hw1' : w1 = (w.alloc (.cells (userC zeroU) 29)).alloc (.cells ((pieces s).map Value.string).toArray 9) := hw1
  rw [← hlen]
  have HD : Hid (∀ v, IsLine s.data.toList v → (pieces s).map (·.data.toList) = [v.name.data.toList, v.pass.data.toList, decD v.id.toNat, decD v.group.toNat, v.home.data.toList, v.shell.data.toList]) := Lib.hid (fun v h => line_pieces h)
  have HPD := Lib.hid (pieces_data s)
  clear hw1 hlen HSP
  generalize pieces s = X at *
  have hb1 : Below (w.alloc (.cells (userC zeroU) 29)).heap.size (w.alloc (.cells (userC zeroU) 29)) w1 := by rw [hw1']; exact (Below.refl _ _).alloc (Nat.le_refl _) _
  have HB1 := Lib.hid (HB0.out.trans (hb1.mono HB0.out.size))
  have HH1 := Lib.hid (below_heap hb1 HH0.out)
  have hc1 : ∀ j x, X[j]? = some x → w1.cell? ⟨(w.alloc (.cells (userC zeroU) 29)).heap.size, j, none⟩ = some (.string x) := fun j x hx => by
    rw [hw1', heap_cell (at_new _ _) j]
    simp [hx]
  have HC1 := Lib.hid hc1
  clear hb1 hc1 hw1' HB0 HH0
  by_cases h6 : X.length = 6
  · obtain ⟨x0, x1, x2, x3, x4, x5, rfl⟩ : ∃ x0 x1 x2 x3 x4 x5, X = [x0, x1, x2, x3, x4, x5] := by
      match X, h6 with
      | [x0, x1, x2, x3, x4, x5], _ => exact ⟨x0, x1, x2, x3, x4, x5, rfl⟩
    generalize hn1 : (w.alloc (.cells (userC zeroU) 29)).heap.size = n1 at *
    have q0 := HC1.out 0 x0 rfl
    have q1 := HC1.out 1 x1 rfl
    have q2 := HC1.out 2 x2 rfl
    have q3 := HC1.out 3 x3 rfl
    have q4 := HC1.out 4 x4 rfl
    have q5 := HC1.out 5 x5 rfl
    have z2 := HX.out x2 (by simp)
    have z3 := HX.out x3 (by simp)
    go_wp2_with fail
    refine (pu_any x2 w1 z2 (HW.out.below HB1.out)).mono ?_
    rintro e w2 ⟨n2, v2, rfl, l2, hb2, h2⟩
    have HB2 := Lib.hid (HB1.out.trans (hb2.mono HB1.out.size))
    have HH2 := Lib.hid (below_heap hb2 HH1.out)
    have HC2 := Lib.hid (fun j x hx => cell_below (HC1.out j x hx) hb2)
    have H2 := Lib.hid h2
    clear hb2 h2 q0 q1 q2 q3 q4 q5 z2 HC1 HH1 HB1
    have q3 := HC2.out 3 x3 rfl
    go_wp2_with fail
    refine (pu_any x3 w2 z3 (HW.out.below HB2.out)).mono ?_
    rintro e w3 ⟨n3, v3, rfl, l3, hb3, h3⟩
    have HB3 := Lib.hid (HB2.out.trans (hb3.mono HB2.out.size))
    have HH3 := Lib.hid (below_heap hb3 HH2.out)
    have HC3 := Lib.hid (fun j x hx => cell_below (HC2.out j x hx) hb3)
    have H3 := Lib.hid h3
    clear hb3 h3 q3 z3 HC2 HH2 HB2
    have q0 := HC3.out 0 x0 rfl
    have q1 := HC3.out 1 x1 rfl
    have q2 := HC3.out 2 x2 rfl
    have q3 := HC3.out 3 x3 rfl
    have q4 := HC3.out 4 x4 rfl
    have q5 := HC3.out 5 x5 rfl
    have k2 : (n2 : Int) ≤ 65535 := by omega
    have k3 : (n3 : Int) ≤ 65535 := by omega
    have QA := Lib.hid (fun j x hx (o : Obj) => cell_below (HC3.out j x hx) ((Below.refl w3.heap.size w3).alloc (Nat.le_refl _) o))
    have qa0 : ∀ o : Obj, (w3.alloc o).cell? ⟨n1, 0, none⟩ = some (.string x0) := fun o => QA.out 0 x0 rfl o
    have qa1 : ∀ o : Obj, (w3.alloc o).cell? ⟨n1, 1, none⟩ = some (.string x1) := fun o => QA.out 1 x1 rfl o
    have qa4 : ∀ o : Obj, (w3.alloc o).cell? ⟨n1, 4, none⟩ = some (.string x4) := fun o => QA.out 4 x4 rfl o
    have qa5 : ∀ o : Obj, (w3.alloc o).cell? ⟨n1, 5, none⟩ = some (.string x5) := fun o => QA.out 5 x5 rfl o
    go_upto_region 6 with fail
    go_region
    have hb4 : Below w3.heap.size w3 (w3.alloc (.cells (userC ⟨x0, x1, n2, n3, x4, x5⟩) 29)).drew := ((Below.refl _ _).alloc (Nat.le_refl _) _).drew
    have hu4 : UC (w3.alloc (.cells (userC ⟨x0, x1, n2, n3, x4, x5⟩) 29)).drew w3.heap.size 0 ⟨x0, x1, n2, n3, x4, x5⟩ := box_six (u := 29) (Below.refl _ _).drew
    have HB4 := Lib.hid (HB3.out.trans (hb4.mono HB3.out.size))
    have HH4 := Lib.hid (below_heap hb4 HH3.out)
    have HU4 := Lib.hid hu4
    have hW4 : ∃ W4, (w3.alloc (.cells (userC ⟨x0, x1, n2, n3, x4, x5⟩) 29)).drew = W4 := ⟨_, rfl⟩
    obtain ⟨W4, hW4⟩ := hW4
    rw [hW4] at HB4 HH4 HU4
    have hW4' : (w3.alloc (.cells #[.string x0, .string x1, .int .i64 n2, .int .i64 n3, .string x4, .string x5] 29)).drew = W4 := hW4
    rw [hW4']
    have hsz : SzU ⟨x0, x1, n2, n3, x4, x5⟩ := ⟨Nat.le_trans (HX.out x0 (by simp)) (by omega), Nat.le_trans (HX.out x1 (by simp)) (by omega), Nat.le_trans (HX.out x4 (by simp)) (by omega), Nat.le_trans (HX.out x5 (by simp)) (by omega)⟩
    have HSZU := Lib.hid hsz
    have HNE : Hid (w3.heap.size ≠ w.heap.size) := Lib.hid (Nat.ne_of_gt (Array.getElem?_eq_some_iff.1 HH3.out).1)
    clear hb4 hu4 hW4 hW4' hsz qa0 qa1 qa4 qa5 q0 q1 q2 q3 q4 q5 QA HC3 HH3 HB3
    generalize w3.heap.size = n4 at *
    obtain ⟨⟨e0, e1, e2, e3, e4, e5⟩, ⟨z0, z1, z2, z3, z4, z5⟩⟩ := six_facts HH4.out
    obtain ⟨c0, c1, c2, c3, c4, c5⟩ := HU4.out.at0
    simp only [zeroU] at e0 e1 e2 e3 e4 e5
    rcases H2.out with ⟨rfl, p2⟩ | ⟨⟨N, rfl⟩, p2⟩
    · rcases H3.out with ⟨rfl, p3⟩ | ⟨⟨N, rfl⟩, p3⟩
      · have HU : Hid (∀ v, IsLine s.data.toList v → v = ⟨x0, x1, n2, n3, x4, x5⟩) := Lib.hid (fun v hv => read_uniq hv.1 (HD.out v hv) p2 p3)
        clear p2 p3
        have HC0 : Hid (Core w n4 ⟨x0, x1, n2, n3, x4, x5⟩ W4) := Lib.hid ⟨HB4.out, HU4.out, HNE.out, zeroU, HH4.out⟩
        have HMC := fun (W' : World) => may_any ⟨x0, x1, n2, n3, x4, x5⟩ W' HSZU.out
        clear c0 c1 c2 c3 c4 c5 e0 e1 e2 e3 e4 e5 z0 z1 z2 z3 z4 z5
        cases hmay : mayB ⟨x0, x1, n2, n3, x4, x5⟩ with
        | false =>
          rw [hmay] at HMC
          have HMAY := Lib.hid hmay
          clear hmay
          unfold userC at HMC
          go_upto_region 7 with fail
          refine wp_region_held_drew (S := (fun W' => Core w n4 ⟨x0, x1, n2, n3, x4, x5⟩ W' ∧ (W'.cell? ⟨n4, 0, none⟩ = some (.string x0) ∧ W'.cell? ⟨n4, 1, none⟩ = some (.string x1) ∧ W'.cell? ⟨n4, 2, none⟩ = some (.int .i64 n2) ∧ W'.cell? ⟨n4, 3, none⟩ = some (.int .i64 n3) ∧ W'.cell? ⟨n4, 4, none⟩ = some (.string x4) ∧ W'.cell? ⟨n4, 5, none⟩ = some (.string x5)) ∧ (W'.cell? ⟨w.heap.size, 0, none⟩ = some (rdc w W' 0) ∧ W'.cell? ⟨w.heap.size, 1, none⟩ = some (rdc w W' 1) ∧ W'.cell? ⟨w.heap.size, 2, none⟩ = some (rdc w W' 2) ∧ W'.cell? ⟨w.heap.size, 3, none⟩ = some (rdc w W' 3) ∧ W'.cell? ⟨w.heap.size, 4, none⟩ = some (rdc w W' 4) ∧ W'.cell? ⟨w.heap.size, 5, none⟩ = some (rdc w W' 5)) ∧ (W'.frozen? ⟨w.heap.size, 0, none⟩ = false ∧ W'.frozen? ⟨w.heap.size, 1, none⟩ = false ∧ W'.frozen? ⟨w.heap.size, 2, none⟩ = false ∧ W'.frozen? ⟨w.heap.size, 3, none⟩ = false ∧ W'.frozen? ⟨w.heap.size, 4, none⟩ = false ∧ W'.frozen? ⟨w.heap.size, 5, none⟩ = false))) (by kernel_rfl) ((HC0.out.step (Below.refl _ _).drew).all) (fun hHeld => ?_)
          refine wpAnyH_take (i := 0) (v := ?_) rfl (by kernel_rfl) (by kernel_rfl) (by kernel_rfl) (fun _ _ _ h => h) (Or.inl ⟨by rfl, ?_⟩) (by assumption) ?_
          rotate_left
          · (intro W hSw; (try dsimp only at hSw); go_simp; try with_reducible rfl)
          try simp only [List.getElem_toArray, List.getElem_cons_zero, List.getElem_cons_succ, Act.put, List.setIfInBounds_toArray, List.set_cons_zero, List.set_cons_succ]
          refine wpAnyH_take (i := 1) (v := ?_) rfl (by kernel_rfl) (by kernel_rfl) (by kernel_rfl) (fun _ _ _ h => h) (Or.inl ⟨by rfl, ?_⟩) (by assumption) ?_
          rotate_left
          · (intro W hSw; (try dsimp only at hSw); go_simp; try with_reducible rfl)
          try simp only [List.getElem_toArray, List.getElem_cons_zero, List.getElem_cons_succ, Act.put, List.setIfInBounds_toArray, List.set_cons_zero, List.set_cons_succ]
          refine wpAnyH_take (i := 2) (v := ?_) rfl (by kernel_rfl) (by kernel_rfl) (by kernel_rfl) (fun _ _ _ h => h) (Or.inl ⟨by rfl, ?_⟩) (by assumption) ?_
          rotate_left
          · (intro W hSw; (try dsimp only at hSw); go_simp; try with_reducible rfl)
          try simp only [List.getElem_toArray, List.getElem_cons_zero, List.getElem_cons_succ, Act.put, List.setIfInBounds_toArray, List.set_cons_zero, List.set_cons_succ]
          refine wpAnyH_take (i := 3) (v := ?_) rfl (by kernel_rfl) (by kernel_rfl) (by kernel_rfl) (fun _ _ _ h => h) (Or.inl ⟨by rfl, ?_⟩) (by assumption) ?_
          rotate_left
          · (intro W hSw; (try dsimp only at hSw); go_simp; try with_reducible rfl)
          try simp only [List.getElem_toArray, List.getElem_cons_zero, List.getElem_cons_succ, Act.put, List.setIfInBounds_toArray, List.set_cons_zero, List.set_cons_succ]
          refine wpAnyH_take (i := 4) (v := ?_) rfl (by kernel_rfl) (by kernel_rfl) (by kernel_rfl) (fun _ _ _ h => h) (Or.inl ⟨by rfl, ?_⟩) (by assumption) ?_
          rotate_left
          · (intro W hSw; (try dsimp only at hSw); go_simp; try with_reducible rfl)
          try simp only [List.getElem_toArray, List.getElem_cons_zero, List.getElem_cons_succ, Act.put, List.setIfInBounds_toArray, List.set_cons_zero, List.set_cons_succ]
          refine wpAnyH_take (i := 5) (v := ?_) rfl (by kernel_rfl) (by kernel_rfl) (by kernel_rfl) (fun _ _ _ h => h) (Or.inl ⟨by rfl, ?_⟩) (by assumption) ?_
          rotate_left
          · (intro W hSw; (try dsimp only at hSw); go_simp; try with_reducible rfl)
          try simp only [List.getElem_toArray, List.getElem_cons_zero, List.getElem_cons_succ, Act.put, List.setIfInBounds_toArray, List.set_cons_zero, List.set_cons_succ]
          refine wpAnyH_take (i := 6) (v := ?_) rfl (by kernel_rfl) (by kernel_rfl) (by kernel_rfl) (fun _ _ _ h => h) (Or.inl ⟨by rfl, ?_⟩) (by assumption) ?_
          rotate_left
          · (intro W hSw; (try dsimp only at hSw); go_simp; try with_reducible rfl)
          try simp only [List.getElem_toArray, List.getElem_cons_zero, List.getElem_cons_succ, Act.put, List.setIfInBounds_toArray, List.set_cons_zero, List.set_cons_succ]
          refine wpAnyH_take (i := 7) (v := ?_) rfl (by kernel_rfl) (by kernel_rfl) (by kernel_rfl) (fun _ _ _ h => h) (Or.inl ⟨by rfl, ?_⟩) (by assumption) ?_
          rotate_left
          · (intro W hSw; (try dsimp only at hSw); go_simp; try with_reducible rfl)
          try simp only [List.getElem_toArray, List.getElem_cons_zero, List.getElem_cons_succ, Act.put, List.setIfInBounds_toArray, List.set_cons_zero, List.set_cons_succ]
          refine wpAnyH_take (i := 8) (v := ?_) rfl (by kernel_rfl) (by kernel_rfl) (by kernel_rfl) (fun _ _ _ h => h) (Or.inl ⟨by rfl, ?_⟩) (by assumption) ?_
          rotate_left
          · (intro W hSw; (try dsimp only at hSw); go_simp; try with_reducible rfl)
          try simp only [List.getElem_toArray, List.getElem_cons_zero, List.getElem_cons_succ, Act.put, List.setIfInBounds_toArray, List.set_cons_zero, List.set_cons_succ]
          refine wpAnyH_ready (rs := [9]) (by kernel_rfl) (by simp) ?_
          refine AllReadyH.cons rfl (fun K hK => ?_) AllReadyH.nil
          simp only [List.getElem_toArray, List.getElem_cons_zero, List.getElem_cons_succ]
          go_simp
          go_at_call 24
          refine (HMC _).mono ?_
          rintro e w5 ⟨rfl, hb5⟩
          have hbz : Core w n4 ⟨x0, x1, n2, n3, x4, x5⟩ w5 := hHeld.1.step hb5
          refine hK.out _ _ ?_ (fun hHeld => ?_)
          · (try dsimp only); exact hbz.all
          clear hK K
          try simp only [List.getElem_toArray, List.getElem_cons_zero, List.getElem_cons_succ, Act.put, List.setIfInBounds_toArray, List.set_cons_zero, List.set_cons_succ]
          refine wpAnyH_take (i := 10) (v := ?_) rfl (by kernel_rfl) (by kernel_rfl) (by kernel_rfl) (fun _ _ _ h => h) (Or.inl ⟨by rfl, ?_⟩) (by assumption) ?_
          rotate_left
          · (intro W hSw; (try dsimp only at hSw); go_simp; try with_reducible rfl)
          try simp only [List.getElem_toArray, List.getElem_cons_zero, List.getElem_cons_succ, Act.put, List.setIfInBounds_toArray, List.set_cons_zero, List.set_cons_succ]
          refine wpAnyH_take (i := 11) (v := ?_) rfl (by kernel_rfl) (by kernel_rfl) (by kernel_rfl) (fun _ _ _ h => h) (Or.inl ⟨by rfl, ?_⟩) (by assumption) ?_
          rotate_left
          · (intro W hSw; (try dsimp only at hSw); go_simp; try with_reducible rfl)
          try simp only [List.getElem_toArray, List.getElem_cons_zero, List.getElem_cons_succ, Act.put, List.setIfInBounds_toArray, List.set_cons_zero, List.set_cons_succ]
          refine wpAnyH_take (i := 12) rfl (by kernel_rfl) (by kernel_rfl) (by kernel_rfl) (fun _ _ _ h => h) (Or.inr ⟨by rfl, rfl⟩) (by assumption) ?_
          try simp only [List.getElem_toArray, List.getElem_cons_zero, List.getElem_cons_succ, Act.put, List.setIfInBounds_toArray, List.set_cons_zero, List.set_cons_succ]
          refine wpAnyH_take (i := 13) rfl (by kernel_rfl) (by kernel_rfl) (by kernel_rfl) (fun _ _ _ h => h) (Or.inr ⟨by rfl, rfl⟩) (by assumption) ?_
          try simp only [List.getElem_toArray, List.getElem_cons_zero, List.getElem_cons_succ, Act.put, List.setIfInBounds_toArray, List.set_cons_zero, List.set_cons_succ]
          refine wpAnyH_take (i := 14) rfl (by kernel_rfl) (by kernel_rfl) (by kernel_rfl) (fun _ _ _ h => h) (Or.inr ⟨by rfl, rfl⟩) (by assumption) ?_
          try simp only [List.getElem_toArray, List.getElem_cons_zero, List.getElem_cons_succ, Act.put, List.setIfInBounds_toArray, List.set_cons_zero, List.set_cons_succ]
          refine wpAnyH_take (i := 15) rfl (by kernel_rfl) (by kernel_rfl) (by kernel_rfl) (fun _ _ _ h => h) (Or.inr ⟨by rfl, rfl⟩) (by assumption) ?_
          try simp only [List.getElem_toArray, List.getElem_cons_zero, List.getElem_cons_succ, Act.put, List.setIfInBounds_toArray, List.set_cons_zero, List.set_cons_succ]
          refine wpAnyH_take (i := 16) (v := ?_) rfl (by kernel_rfl) (by kernel_rfl) (by kernel_rfl) (fun _ _ _ h => h) (Or.inl ⟨by rfl, ?_⟩) (by assumption) ?_
          rotate_left
          · (intro W hSw; (try dsimp only at hSw); go_simp; try with_reducible rfl)
          try simp only [List.getElem_toArray, List.getElem_cons_zero, List.getElem_cons_succ, Act.put, List.setIfInBounds_toArray, List.set_cons_zero, List.set_cons_succ]
          refine wpAnyH_ready (rs := [17]) (by kernel_rfl) (by simp) ?_
          refine AllReadyH.cons rfl (fun K hK => ?_) AllReadyH.nil
          simp only [List.getElem_toArray, List.getElem_cons_zero, List.getElem_cons_succ]
          obtain ⟨_, _, ⟨j0, j1, j2, j3, j4, j5⟩, ⟨i0, i1, i2, i3, i4, i5⟩⟩ := hHeld
          go_simp
          refine hK.out _ _ ?_ (fun hHeld => ?_)
          · (try dsimp only); exact (hbz.six ⟨x0, x1, n2, n3, x4, x5⟩).all
          clear hK K
          try simp only [List.getElem_toArray, List.getElem_cons_zero, List.getElem_cons_succ, Act.put, List.setIfInBounds_toArray, List.set_cons_zero, List.set_cons_succ]
          refine wpAnyH_take (i := 18) (v := ?_) rfl (by kernel_rfl) (by kernel_rfl) (by kernel_rfl) (fun _ _ _ h => h) (Or.inl ⟨by rfl, ?_⟩) (by assumption) ?_
          rotate_left
          · (intro W hSw; (try dsimp only at hSw); go_simp; try with_reducible rfl)
          try simp only [List.getElem_toArray, List.getElem_cons_zero, List.getElem_cons_succ, Act.put, List.setIfInBounds_toArray, List.set_cons_zero, List.set_cons_succ]
          refine wpAnyH_done (by kernel_rfl) ?_ _
          obtain ⟨g, hg⟩ := hbz.row
          go_wp2
          exact leave16 w.heap.size rfl rfl (sixW_at hg ⟨x0, x1, n2, n3, x4, x5⟩) ⟨_, false, rfl, sixW_below hbz.below (Nat.le_refl _) _ _ _ _ _ _, (fun h => by cases h), fun _ v hv => by
            have hv1 := hv.1
            rw [HU.out v hv, HMAY.out] at hv1
            cases hv1⟩
        | true =>
          rw [hmay] at HMC
          have HMAY := Lib.hid hmay
          have hll := line_len hmay
          have hmp := mayP hmay
          have HLC := fun (W' : World) (hb : Below w.heap.size w W') => line_any ⟨x0, x1, n2, n3, x4, x5⟩ W' (HW.out.below hb) hmp.id0 hmp.id1 hmp.g0 hmp.g1 (by omega)
          obtain ⟨R, hR⟩ : ∃ R : ByteArray, ⟨(lineB ⟨x0, x1, n2, n3, x4, x5⟩).toArray⟩ = R := ⟨_, rfl⟩
          rw [hR] at HLC
          have heq : (R.toList == s.toList) = decide (R = s) := eq_text R s
          obtain ⟨q, hq⟩ : ∃ q, decide (R = s) = q := ⟨_, rfl⟩
          have HQ : Hid (q = true ↔ lineB ⟨x0, x1, n2, n3, x4, x5⟩ = s.data.toList) := Lib.hid (by
            rw [← hq, decide_eq_true_eq, ← hR]
            refine ⟨fun h => by rw [← h], fun h => ?_⟩
            apply ba_eq
            exact h)
          rw [hq] at heq
          clear hmay hll hmp hR hq
          unfold userC at HMC HLC
          go_upto_region 7 with fail
          refine wp_region_held_drew (S := (fun W' => Core w n4 ⟨x0, x1, n2, n3, x4, x5⟩ W' ∧ (W'.cell? ⟨n4, 0, none⟩ = some (.string x0) ∧ W'.cell? ⟨n4, 1, none⟩ = some (.string x1) ∧ W'.cell? ⟨n4, 2, none⟩ = some (.int .i64 n2) ∧ W'.cell? ⟨n4, 3, none⟩ = some (.int .i64 n3) ∧ W'.cell? ⟨n4, 4, none⟩ = some (.string x4) ∧ W'.cell? ⟨n4, 5, none⟩ = some (.string x5)) ∧ (W'.cell? ⟨w.heap.size, 0, none⟩ = some (rdc w W' 0) ∧ W'.cell? ⟨w.heap.size, 1, none⟩ = some (rdc w W' 1) ∧ W'.cell? ⟨w.heap.size, 2, none⟩ = some (rdc w W' 2) ∧ W'.cell? ⟨w.heap.size, 3, none⟩ = some (rdc w W' 3) ∧ W'.cell? ⟨w.heap.size, 4, none⟩ = some (rdc w W' 4) ∧ W'.cell? ⟨w.heap.size, 5, none⟩ = some (rdc w W' 5)) ∧ (W'.frozen? ⟨w.heap.size, 0, none⟩ = false ∧ W'.frozen? ⟨w.heap.size, 1, none⟩ = false ∧ W'.frozen? ⟨w.heap.size, 2, none⟩ = false ∧ W'.frozen? ⟨w.heap.size, 3, none⟩ = false ∧ W'.frozen? ⟨w.heap.size, 4, none⟩ = false ∧ W'.frozen? ⟨w.heap.size, 5, none⟩ = false))) (by kernel_rfl) ((HC0.out.step (Below.refl _ _).drew).all) (fun hHeld => ?_)
          refine wpAnyH_take (i := 0) (v := ?_) rfl (by kernel_rfl) (by kernel_rfl) (by kernel_rfl) (fun _ _ _ h => h) (Or.inl ⟨by rfl, ?_⟩) (by assumption) ?_
          rotate_left
          · (intro W hSw; (try dsimp only at hSw); go_simp; try with_reducible rfl)
          try simp only [List.getElem_toArray, List.getElem_cons_zero, List.getElem_cons_succ, Act.put, List.setIfInBounds_toArray, List.set_cons_zero, List.set_cons_succ]
          refine wpAnyH_take (i := 1) (v := ?_) rfl (by kernel_rfl) (by kernel_rfl) (by kernel_rfl) (fun _ _ _ h => h) (Or.inl ⟨by rfl, ?_⟩) (by assumption) ?_
          rotate_left
          · (intro W hSw; (try dsimp only at hSw); go_simp; try with_reducible rfl)
          try simp only [List.getElem_toArray, List.getElem_cons_zero, List.getElem_cons_succ, Act.put, List.setIfInBounds_toArray, List.set_cons_zero, List.set_cons_succ]
          refine wpAnyH_take (i := 2) (v := ?_) rfl (by kernel_rfl) (by kernel_rfl) (by kernel_rfl) (fun _ _ _ h => h) (Or.inl ⟨by rfl, ?_⟩) (by assumption) ?_
          rotate_left
          · (intro W hSw; (try dsimp only at hSw); go_simp; try with_reducible rfl)
          try simp only [List.getElem_toArray, List.getElem_cons_zero, List.getElem_cons_succ, Act.put, List.setIfInBounds_toArray, List.set_cons_zero, List.set_cons_succ]
          refine wpAnyH_take (i := 3) (v := ?_) rfl (by kernel_rfl) (by kernel_rfl) (by kernel_rfl) (fun _ _ _ h => h) (Or.inl ⟨by rfl, ?_⟩) (by assumption) ?_
          rotate_left
          · (intro W hSw; (try dsimp only at hSw); go_simp; try with_reducible rfl)
          try simp only [List.getElem_toArray, List.getElem_cons_zero, List.getElem_cons_succ, Act.put, List.setIfInBounds_toArray, List.set_cons_zero, List.set_cons_succ]
          refine wpAnyH_take (i := 4) (v := ?_) rfl (by kernel_rfl) (by kernel_rfl) (by kernel_rfl) (fun _ _ _ h => h) (Or.inl ⟨by rfl, ?_⟩) (by assumption) ?_
          rotate_left
          · (intro W hSw; (try dsimp only at hSw); go_simp; try with_reducible rfl)
          try simp only [List.getElem_toArray, List.getElem_cons_zero, List.getElem_cons_succ, Act.put, List.setIfInBounds_toArray, List.set_cons_zero, List.set_cons_succ]
          refine wpAnyH_take (i := 5) (v := ?_) rfl (by kernel_rfl) (by kernel_rfl) (by kernel_rfl) (fun _ _ _ h => h) (Or.inl ⟨by rfl, ?_⟩) (by assumption) ?_
          rotate_left
          · (intro W hSw; (try dsimp only at hSw); go_simp; try with_reducible rfl)
          try simp only [List.getElem_toArray, List.getElem_cons_zero, List.getElem_cons_succ, Act.put, List.setIfInBounds_toArray, List.set_cons_zero, List.set_cons_succ]
          refine wpAnyH_take (i := 6) (v := ?_) rfl (by kernel_rfl) (by kernel_rfl) (by kernel_rfl) (fun _ _ _ h => h) (Or.inl ⟨by rfl, ?_⟩) (by assumption) ?_
          rotate_left
          · (intro W hSw; (try dsimp only at hSw); go_simp; try with_reducible rfl)
          try simp only [List.getElem_toArray, List.getElem_cons_zero, List.getElem_cons_succ, Act.put, List.setIfInBounds_toArray, List.set_cons_zero, List.set_cons_succ]
          refine wpAnyH_take (i := 7) (v := ?_) rfl (by kernel_rfl) (by kernel_rfl) (by kernel_rfl) (fun _ _ _ h => h) (Or.inl ⟨by rfl, ?_⟩) (by assumption) ?_
          rotate_left
          · (intro W hSw; (try dsimp only at hSw); go_simp; try with_reducible rfl)
          try simp only [List.getElem_toArray, List.getElem_cons_zero, List.getElem_cons_succ, Act.put, List.setIfInBounds_toArray, List.set_cons_zero, List.set_cons_succ]
          refine wpAnyH_take (i := 8) (v := ?_) rfl (by kernel_rfl) (by kernel_rfl) (by kernel_rfl) (fun _ _ _ h => h) (Or.inl ⟨by rfl, ?_⟩) (by assumption) ?_
          rotate_left
          · (intro W hSw; (try dsimp only at hSw); go_simp; try with_reducible rfl)
          try simp only [List.getElem_toArray, List.getElem_cons_zero, List.getElem_cons_succ, Act.put, List.setIfInBounds_toArray, List.set_cons_zero, List.set_cons_succ]
          refine wpAnyH_ready (rs := [9]) (by kernel_rfl) (by simp) ?_
          refine AllReadyH.cons rfl (fun K hK => ?_) AllReadyH.nil
          simp only [List.getElem_toArray, List.getElem_cons_zero, List.getElem_cons_succ]
          go_simp
          go_at_call 24
          refine (HMC _).mono ?_
          rintro e w5 ⟨rfl, hb5⟩
          have hbz : Core w n4 ⟨x0, x1, n2, n3, x4, x5⟩ w5 := hHeld.1.step hb5
          refine hK.out _ _ ?_ (fun hHeld => ?_)
          · (try dsimp only); exact hbz.all
          clear hK K
          try simp only [List.getElem_toArray, List.getElem_cons_zero, List.getElem_cons_succ, Act.put, List.setIfInBounds_toArray, List.set_cons_zero, List.set_cons_succ]
          refine wpAnyH_take (i := 10) (v := ?_) rfl (by kernel_rfl) (by kernel_rfl) (by kernel_rfl) (fun _ _ _ h => h) (Or.inl ⟨by rfl, ?_⟩) (by assumption) ?_
          rotate_left
          · (intro W hSw; (try dsimp only at hSw); go_simp; try with_reducible rfl)
          try simp only [List.getElem_toArray, List.getElem_cons_zero, List.getElem_cons_succ, Act.put, List.setIfInBounds_toArray, List.set_cons_zero, List.set_cons_succ]
          refine wpAnyH_take (i := 11) (v := ?_) rfl (by kernel_rfl) (by kernel_rfl) (by kernel_rfl) (fun _ _ _ h => h) (Or.inl ⟨by rfl, ?_⟩) (by assumption) ?_
          rotate_left
          · (intro W hSw; (try dsimp only at hSw); go_simp; try with_reducible rfl)
          try simp only [List.getElem_toArray, List.getElem_cons_zero, List.getElem_cons_succ, Act.put, List.setIfInBounds_toArray, List.set_cons_zero, List.set_cons_succ]
          refine wpAnyH_take (i := 12) (v := ?_) rfl (by kernel_rfl) (by kernel_rfl) (by kernel_rfl) (fun _ _ _ h => h) (Or.inl ⟨by rfl, ?_⟩) (by assumption) ?_
          rotate_left
          · (intro W hSw; (try dsimp only at hSw); go_simp; try with_reducible rfl)
          try simp only [List.getElem_toArray, List.getElem_cons_zero, List.getElem_cons_succ, Act.put, List.setIfInBounds_toArray, List.set_cons_zero, List.set_cons_succ]
          refine wpAnyH_take (i := 14) (v := ?_) rfl (by kernel_rfl) (by kernel_rfl) (by kernel_rfl) (fun _ _ _ h => h) (Or.inl ⟨by rfl, ?_⟩) (by assumption) ?_
          rotate_left
          · (intro W hSw; (try dsimp only at hSw); go_simp; try with_reducible rfl)
          try simp only [List.getElem_toArray, List.getElem_cons_zero, List.getElem_cons_succ, Act.put, List.setIfInBounds_toArray, List.set_cons_zero, List.set_cons_succ]
          clear hbz hb5 HMC
          refine wpAnyH_ready (rs := [13]) (by kernel_rfl) (by simp) ?_
          refine AllReadyH.cons rfl (fun K hK => ?_) AllReadyH.nil
          simp only [List.getElem_toArray, List.getElem_cons_zero, List.getElem_cons_succ]
          go_simp
          go_at_call 27
          refine (HLC _ hHeld.1.below).mono ?_
          rintro e w6 ⟨rfl, hb6⟩
          have hbz : Core w n4 ⟨x0, x1, n2, n3, x4, x5⟩ w6 := hHeld.1.step hb6
          refine hK.out _ _ ?_ (fun hHeld => ?_)
          · (try dsimp only); exact hbz.all
          clear hK K
          try simp only [List.getElem_toArray, List.getElem_cons_zero, List.getElem_cons_succ, Act.put, List.setIfInBounds_toArray, List.set_cons_zero, List.set_cons_succ]
          refine wpAnyH_take (i := 15) (v := ?_) rfl (by kernel_rfl) (by kernel_rfl) (by kernel_rfl) (fun _ _ _ h => h) (Or.inl ⟨by rfl, ?_⟩) (by assumption) ?_
          rotate_left
          · (intro W hSw; (try dsimp only at hSw); go_simp; try with_reducible rfl)
          try simp only [List.getElem_toArray, List.getElem_cons_zero, List.getElem_cons_succ, Act.put, List.setIfInBounds_toArray, List.set_cons_zero, List.set_cons_succ]
          refine wpAnyH_take (i := 16) (v := ?_) rfl (by kernel_rfl) (by kernel_rfl) (by kernel_rfl) (fun _ _ _ h => h) (Or.inl ⟨by rfl, ?_⟩) (by assumption) ?_
          rotate_left
          · (intro W hSw; (try dsimp only at hSw); go_simp; try with_reducible rfl)
          try simp only [List.getElem_toArray, List.getElem_cons_zero, List.getElem_cons_succ, Act.put, List.setIfInBounds_toArray, List.set_cons_zero, List.set_cons_succ]
          refine wpAnyH_ready (rs := [17]) (by kernel_rfl) (by simp) ?_
          refine AllReadyH.cons rfl (fun K hK => ?_) AllReadyH.nil
          simp only [List.getElem_toArray, List.getElem_cons_zero, List.getElem_cons_succ]
          obtain ⟨_, _, ⟨j0, j1, j2, j3, j4, j5⟩, ⟨i0, i1, i2, i3, i4, i5⟩⟩ := hHeld
          go_simp
          refine hK.out _ _ ?_ (fun hHeld => ?_)
          · (try dsimp only); exact (hbz.six ⟨x0, x1, n2, n3, x4, x5⟩).all
          clear hK K
          try simp only [List.getElem_toArray, List.getElem_cons_zero, List.getElem_cons_succ, Act.put, List.setIfInBounds_toArray, List.set_cons_zero, List.set_cons_succ]
          refine wpAnyH_take (i := 18) (v := ?_) rfl (by kernel_rfl) (by kernel_rfl) (by kernel_rfl) (fun _ _ _ h => h) (Or.inl ⟨by rfl, ?_⟩) (by assumption) ?_
          rotate_left
          · (intro W hSw; (try dsimp only at hSw); go_simp; try with_reducible rfl)
          try simp only [List.getElem_toArray, List.getElem_cons_zero, List.getElem_cons_succ, Act.put, List.setIfInBounds_toArray, List.set_cons_zero, List.set_cons_succ]
          refine wpAnyH_done (by kernel_rfl) ?_ _
          obtain ⟨g, hg⟩ := hbz.row
          go_wp2
          exact leave16 w.heap.size rfl rfl (sixW_at hg ⟨x0, x1, n2, n3, x4, x5⟩) ⟨_, q, rfl, sixW_below hbz.below (Nat.le_refl _) _ _ _ _ _ _, (fun h => ⟨HMAY.out, HQ.out.1 h⟩), fun h v hv => by
            have hv2 := hv.2
            rw [HU.out v hv] at hv2
            rw [HQ.out.2 hv2] at h
            cases h⟩
      · have HNO : Hid (∀ v, ¬ IsLine s.data.toList v) := Lib.hid (fun v hv => p3 _ (read_two hv.1 (HD.out v hv)).2)
        clear p2 p3
        have HC0 : Hid (Core w n4 ⟨x0, x1, n2, n3, x4, x5⟩ W4) := Lib.hid ⟨HB4.out, HU4.out, HNE.out, zeroU, HH4.out⟩
        clear c0 c1 c2 c3 c4 c5 e0 e1 e2 e3 e4 e5 z0 z1 z2 z3 z4 z5
        go_upto_region 7 with fail
        refine wp_region_held_drew (S := (fun W' => Core w n4 ⟨x0, x1, n2, n3, x4, x5⟩ W' ∧ (W'.cell? ⟨n4, 0, none⟩ = some (.string x0) ∧ W'.cell? ⟨n4, 1, none⟩ = some (.string x1) ∧ W'.cell? ⟨n4, 2, none⟩ = some (.int .i64 n2) ∧ W'.cell? ⟨n4, 3, none⟩ = some (.int .i64 n3) ∧ W'.cell? ⟨n4, 4, none⟩ = some (.string x4) ∧ W'.cell? ⟨n4, 5, none⟩ = some (.string x5)) ∧ (W'.cell? ⟨w.heap.size, 0, none⟩ = some (rdc w W' 0) ∧ W'.cell? ⟨w.heap.size, 1, none⟩ = some (rdc w W' 1) ∧ W'.cell? ⟨w.heap.size, 2, none⟩ = some (rdc w W' 2) ∧ W'.cell? ⟨w.heap.size, 3, none⟩ = some (rdc w W' 3) ∧ W'.cell? ⟨w.heap.size, 4, none⟩ = some (rdc w W' 4) ∧ W'.cell? ⟨w.heap.size, 5, none⟩ = some (rdc w W' 5)) ∧ (W'.frozen? ⟨w.heap.size, 0, none⟩ = false ∧ W'.frozen? ⟨w.heap.size, 1, none⟩ = false ∧ W'.frozen? ⟨w.heap.size, 2, none⟩ = false ∧ W'.frozen? ⟨w.heap.size, 3, none⟩ = false ∧ W'.frozen? ⟨w.heap.size, 4, none⟩ = false ∧ W'.frozen? ⟨w.heap.size, 5, none⟩ = false))) (by kernel_rfl) ((HC0.out.step (Below.refl _ _).drew).all) (fun hHeld => ?_)
        generalize W4.drew = w5 at *
        refine wpAnyH_take (i := 0) (v := ?_) rfl (by kernel_rfl) (by kernel_rfl) (by kernel_rfl) (fun _ _ _ h => h) (Or.inl ⟨by rfl, ?_⟩) (by assumption) ?_
        rotate_left
        · (intro W hSw; (try dsimp only at hSw); go_simp; try with_reducible rfl)
        try simp only [List.getElem_toArray, List.getElem_cons_zero, List.getElem_cons_succ, Act.put, List.setIfInBounds_toArray, List.set_cons_zero, List.set_cons_succ]
        refine wpAnyH_take (i := 1) (v := ?_) rfl (by kernel_rfl) (by kernel_rfl) (by kernel_rfl) (fun _ _ _ h => h) (Or.inl ⟨by rfl, ?_⟩) (by assumption) ?_
        rotate_left
        · (intro W hSw; (try dsimp only at hSw); go_simp; try with_reducible rfl)
        try simp only [List.getElem_toArray, List.getElem_cons_zero, List.getElem_cons_succ, Act.put, List.setIfInBounds_toArray, List.set_cons_zero, List.set_cons_succ]
        refine wpAnyH_take (i := 2) (v := ?_) rfl (by kernel_rfl) (by kernel_rfl) (by kernel_rfl) (fun _ _ _ h => h) (Or.inl ⟨by rfl, ?_⟩) (by assumption) ?_
        rotate_left
        · (intro W hSw; (try dsimp only at hSw); go_simp; try with_reducible rfl)
        try simp only [List.getElem_toArray, List.getElem_cons_zero, List.getElem_cons_succ, Act.put, List.setIfInBounds_toArray, List.set_cons_zero, List.set_cons_succ]
        refine wpAnyH_take (i := 3) (v := ?_) rfl (by kernel_rfl) (by kernel_rfl) (by kernel_rfl) (fun _ _ _ h => h) (Or.inl ⟨by rfl, ?_⟩) (by assumption) ?_
        rotate_left
        · (intro W hSw; (try dsimp only at hSw); go_simp; try with_reducible rfl)
        try simp only [List.getElem_toArray, List.getElem_cons_zero, List.getElem_cons_succ, Act.put, List.setIfInBounds_toArray, List.set_cons_zero, List.set_cons_succ]
        refine wpAnyH_take (i := 4) (v := ?_) rfl (by kernel_rfl) (by kernel_rfl) (by kernel_rfl) (fun _ _ _ h => h) (Or.inl ⟨by rfl, ?_⟩) (by assumption) ?_
        rotate_left
        · (intro W hSw; (try dsimp only at hSw); go_simp; try with_reducible rfl)
        try simp only [List.getElem_toArray, List.getElem_cons_zero, List.getElem_cons_succ, Act.put, List.setIfInBounds_toArray, List.set_cons_zero, List.set_cons_succ]
        refine wpAnyH_take (i := 5) (v := ?_) rfl (by kernel_rfl) (by kernel_rfl) (by kernel_rfl) (fun _ _ _ h => h) (Or.inl ⟨by rfl, ?_⟩) (by assumption) ?_
        rotate_left
        · (intro W hSw; (try dsimp only at hSw); go_simp; try with_reducible rfl)
        try simp only [List.getElem_toArray, List.getElem_cons_zero, List.getElem_cons_succ, Act.put, List.setIfInBounds_toArray, List.set_cons_zero, List.set_cons_succ]
        refine wpAnyH_take (i := 6) (v := ?_) rfl (by kernel_rfl) (by kernel_rfl) (by kernel_rfl) (fun _ _ _ h => h) (Or.inl ⟨by rfl, ?_⟩) (by assumption) ?_
        rotate_left
        · (intro W hSw; (try dsimp only at hSw); go_simp; try with_reducible rfl)
        try simp only [List.getElem_toArray, List.getElem_cons_zero, List.getElem_cons_succ, Act.put, List.setIfInBounds_toArray, List.set_cons_zero, List.set_cons_succ]
        refine wpAnyH_take (i := 7) (v := ?_) rfl (by kernel_rfl) (by kernel_rfl) (by kernel_rfl) (fun _ _ _ h => h) (Or.inl ⟨by rfl, ?_⟩) (by assumption) ?_
        rotate_left
        · (intro W hSw; (try dsimp only at hSw); go_simp; try with_reducible rfl)
        try simp only [List.getElem_toArray, List.getElem_cons_zero, List.getElem_cons_succ, Act.put, List.setIfInBounds_toArray, List.set_cons_zero, List.set_cons_succ]
        refine wpAnyH_take (i := 8) rfl (by kernel_rfl) (by kernel_rfl) (by kernel_rfl) (fun _ _ _ h => h) (Or.inr ⟨by rfl, rfl⟩) (by assumption) ?_
        try simp only [List.getElem_toArray, List.getElem_cons_zero, List.getElem_cons_succ, Act.put, List.setIfInBounds_toArray, List.set_cons_zero, List.set_cons_succ]
        refine wpAnyH_take (i := 9) rfl (by kernel_rfl) (by kernel_rfl) (by kernel_rfl) (fun _ _ _ h => h) (Or.inr ⟨by rfl, rfl⟩) (by assumption) ?_
        try simp only [List.getElem_toArray, List.getElem_cons_zero, List.getElem_cons_succ, Act.put, List.setIfInBounds_toArray, List.set_cons_zero, List.set_cons_succ]
        refine wpAnyH_take (i := 10) (v := ?_) rfl (by kernel_rfl) (by kernel_rfl) (by kernel_rfl) (fun _ _ _ h => h) (Or.inl ⟨by rfl, ?_⟩) (by assumption) ?_
        rotate_left
        · (intro W hSw; (try dsimp only at hSw); go_simp; try with_reducible rfl)
        try simp only [List.getElem_toArray, List.getElem_cons_zero, List.getElem_cons_succ, Act.put, List.setIfInBounds_toArray, List.set_cons_zero, List.set_cons_succ]
        refine wpAnyH_take (i := 11) (v := ?_) rfl (by kernel_rfl) (by kernel_rfl) (by kernel_rfl) (fun _ _ _ h => h) (Or.inl ⟨by rfl, ?_⟩) (by assumption) ?_
        rotate_left
        · (intro W hSw; (try dsimp only at hSw); go_simp; try with_reducible rfl)
        try simp only [List.getElem_toArray, List.getElem_cons_zero, List.getElem_cons_succ, Act.put, List.setIfInBounds_toArray, List.set_cons_zero, List.set_cons_succ]
        refine wpAnyH_take (i := 12) rfl (by kernel_rfl) (by kernel_rfl) (by kernel_rfl) (fun _ _ _ h => h) (Or.inr ⟨by rfl, rfl⟩) (by assumption) ?_
        try simp only [List.getElem_toArray, List.getElem_cons_zero, List.getElem_cons_succ, Act.put, List.setIfInBounds_toArray, List.set_cons_zero, List.set_cons_succ]
        refine wpAnyH_take (i := 13) rfl (by kernel_rfl) (by kernel_rfl) (by kernel_rfl) (fun _ _ _ h => h) (Or.inr ⟨by rfl, rfl⟩) (by assumption) ?_
        try simp only [List.getElem_toArray, List.getElem_cons_zero, List.getElem_cons_succ, Act.put, List.setIfInBounds_toArray, List.set_cons_zero, List.set_cons_succ]
        refine wpAnyH_take (i := 14) rfl (by kernel_rfl) (by kernel_rfl) (by kernel_rfl) (fun _ _ _ h => h) (Or.inr ⟨by rfl, rfl⟩) (by assumption) ?_
        try simp only [List.getElem_toArray, List.getElem_cons_zero, List.getElem_cons_succ, Act.put, List.setIfInBounds_toArray, List.set_cons_zero, List.set_cons_succ]
        refine wpAnyH_take (i := 15) rfl (by kernel_rfl) (by kernel_rfl) (by kernel_rfl) (fun _ _ _ h => h) (Or.inr ⟨by rfl, rfl⟩) (by assumption) ?_
        try simp only [List.getElem_toArray, List.getElem_cons_zero, List.getElem_cons_succ, Act.put, List.setIfInBounds_toArray, List.set_cons_zero, List.set_cons_succ]
        refine wpAnyH_take (i := 16) (v := ?_) rfl (by kernel_rfl) (by kernel_rfl) (by kernel_rfl) (fun _ _ _ h => h) (Or.inl ⟨by rfl, ?_⟩) (by assumption) ?_
        rotate_left
        · (intro W hSw; (try dsimp only at hSw); go_simp; try with_reducible rfl)
        try simp only [List.getElem_toArray, List.getElem_cons_zero, List.getElem_cons_succ, Act.put, List.setIfInBounds_toArray, List.set_cons_zero, List.set_cons_succ]
        have hbz := hHeld.1
        refine wpAnyH_ready (rs := [17]) (by kernel_rfl) (by simp) ?_
        refine AllReadyH.cons rfl (fun K hK => ?_) AllReadyH.nil
        obtain ⟨_, _, ⟨j0, j1, j2, j3, j4, j5⟩, ⟨i0, i1, i2, i3, i4, i5⟩⟩ := hHeld
        go_simp
        refine hK.out _ _ ?_ (fun hHeld => ?_)
        · (try dsimp only); exact (hbz.six ⟨x0, x1, n2, n3, x4, x5⟩).all
        clear hK K
        try simp only [List.getElem_toArray, List.getElem_cons_zero, List.getElem_cons_succ, Act.put, List.setIfInBounds_toArray, List.set_cons_zero, List.set_cons_succ]
        refine wpAnyH_take (i := 18) (v := ?_) rfl (by kernel_rfl) (by kernel_rfl) (by kernel_rfl) (fun _ _ _ h => h) (Or.inl ⟨by rfl, ?_⟩) (by assumption) ?_
        rotate_left
        · (intro W hSw; (try dsimp only at hSw); go_simp; try with_reducible rfl)
        try simp only [List.getElem_toArray, List.getElem_cons_zero, List.getElem_cons_succ, Act.put, List.setIfInBounds_toArray, List.set_cons_zero, List.set_cons_succ]
        refine wpAnyH_done (by kernel_rfl) ?_ _
        obtain ⟨g, hg⟩ := hbz.row
        go_wp2
        exact leave16 w.heap.size rfl rfl (sixW_at hg ⟨x0, x1, n2, n3, x4, x5⟩) ⟨_, false, rfl, sixW_below hbz.below (Nat.le_refl _) _ _ _ _ _ _, (fun h => by cases h), fun _ => HNO.out⟩
    · have HNO : Hid (∀ v, ¬ IsLine s.data.toList v) := Lib.hid (fun v hv => p2 _ (read_two hv.1 (HD.out v hv)).1)
      clear p2
      have HC0 : Hid (Core w n4 ⟨x0, x1, n2, n3, x4, x5⟩ W4) := Lib.hid ⟨HB4.out, HU4.out, HNE.out, zeroU, HH4.out⟩
      clear c0 c1 c2 c3 c4 c5 e0 e1 e2 e3 e4 e5 z0 z1 z2 z3 z4 z5
      go_upto_region 7 with fail
      refine wp_region_held_drew (S := (fun W' => Core w n4 ⟨x0, x1, n2, n3, x4, x5⟩ W' ∧ (W'.cell? ⟨n4, 0, none⟩ = some (.string x0) ∧ W'.cell? ⟨n4, 1, none⟩ = some (.string x1) ∧ W'.cell? ⟨n4, 2, none⟩ = some (.int .i64 n2) ∧ W'.cell? ⟨n4, 3, none⟩ = some (.int .i64 n3) ∧ W'.cell? ⟨n4, 4, none⟩ = some (.string x4) ∧ W'.cell? ⟨n4, 5, none⟩ = some (.string x5)) ∧ (W'.cell? ⟨w.heap.size, 0, none⟩ = some (rdc w W' 0) ∧ W'.cell? ⟨w.heap.size, 1, none⟩ = some (rdc w W' 1) ∧ W'.cell? ⟨w.heap.size, 2, none⟩ = some (rdc w W' 2) ∧ W'.cell? ⟨w.heap.size, 3, none⟩ = some (rdc w W' 3) ∧ W'.cell? ⟨w.heap.size, 4, none⟩ = some (rdc w W' 4) ∧ W'.cell? ⟨w.heap.size, 5, none⟩ = some (rdc w W' 5)) ∧ (W'.frozen? ⟨w.heap.size, 0, none⟩ = false ∧ W'.frozen? ⟨w.heap.size, 1, none⟩ = false ∧ W'.frozen? ⟨w.heap.size, 2, none⟩ = false ∧ W'.frozen? ⟨w.heap.size, 3, none⟩ = false ∧ W'.frozen? ⟨w.heap.size, 4, none⟩ = false ∧ W'.frozen? ⟨w.heap.size, 5, none⟩ = false))) (by kernel_rfl) ((HC0.out.step (Below.refl _ _).drew).all) (fun hHeld => ?_)
      generalize W4.drew = w5 at *
      refine wpAnyH_take (i := 0) (v := ?_) rfl (by kernel_rfl) (by kernel_rfl) (by kernel_rfl) (fun _ _ _ h => h) (Or.inl ⟨by rfl, ?_⟩) (by assumption) ?_
      rotate_left
      · (intro W hSw; (try dsimp only at hSw); go_simp; try with_reducible rfl)
      try simp only [List.getElem_toArray, List.getElem_cons_zero, List.getElem_cons_succ, Act.put, List.setIfInBounds_toArray, List.set_cons_zero, List.set_cons_succ]
      refine wpAnyH_take (i := 1) (v := ?_) rfl (by kernel_rfl) (by kernel_rfl) (by kernel_rfl) (fun _ _ _ h => h) (Or.inl ⟨by rfl, ?_⟩) (by assumption) ?_
      rotate_left
      · (intro W hSw; (try dsimp only at hSw); go_simp; try with_reducible rfl)
      try simp only [List.getElem_toArray, List.getElem_cons_zero, List.getElem_cons_succ, Act.put, List.setIfInBounds_toArray, List.set_cons_zero, List.set_cons_succ]
      refine wpAnyH_take (i := 2) (v := ?_) rfl (by kernel_rfl) (by kernel_rfl) (by kernel_rfl) (fun _ _ _ h => h) (Or.inl ⟨by rfl, ?_⟩) (by assumption) ?_
      rotate_left
      · (intro W hSw; (try dsimp only at hSw); go_simp; try with_reducible rfl)
      try simp only [List.getElem_toArray, List.getElem_cons_zero, List.getElem_cons_succ, Act.put, List.setIfInBounds_toArray, List.set_cons_zero, List.set_cons_succ]
      refine wpAnyH_take (i := 3) (v := ?_) rfl (by kernel_rfl) (by kernel_rfl) (by kernel_rfl) (fun _ _ _ h => h) (Or.inl ⟨by rfl, ?_⟩) (by assumption) ?_
      rotate_left
      · (intro W hSw; (try dsimp only at hSw); go_simp; try with_reducible rfl)
      try simp only [List.getElem_toArray, List.getElem_cons_zero, List.getElem_cons_succ, Act.put, List.setIfInBounds_toArray, List.set_cons_zero, List.set_cons_succ]
      refine wpAnyH_take (i := 4) rfl (by kernel_rfl) (by kernel_rfl) (by kernel_rfl) (fun _ _ _ h => h) (Or.inr ⟨by rfl, rfl⟩) (by assumption) ?_
      try simp only [List.getElem_toArray, List.getElem_cons_zero, List.getElem_cons_succ, Act.put, List.setIfInBounds_toArray, List.set_cons_zero, List.set_cons_succ]
      refine wpAnyH_take (i := 5) rfl (by kernel_rfl) (by kernel_rfl) (by kernel_rfl) (fun _ _ _ h => h) (Or.inr ⟨by rfl, rfl⟩) (by assumption) ?_
      try simp only [List.getElem_toArray, List.getElem_cons_zero, List.getElem_cons_succ, Act.put, List.setIfInBounds_toArray, List.set_cons_zero, List.set_cons_succ]
      refine wpAnyH_take (i := 6) (v := ?_) rfl (by kernel_rfl) (by kernel_rfl) (by kernel_rfl) (fun _ _ _ h => h) (Or.inl ⟨by rfl, ?_⟩) (by assumption) ?_
      rotate_left
      · (intro W hSw; (try dsimp only at hSw); go_simp; try with_reducible rfl)
      try simp only [List.getElem_toArray, List.getElem_cons_zero, List.getElem_cons_succ, Act.put, List.setIfInBounds_toArray, List.set_cons_zero, List.set_cons_succ]
      refine wpAnyH_take (i := 7) (v := ?_) rfl (by kernel_rfl) (by kernel_rfl) (by kernel_rfl) (fun _ _ _ h => h) (Or.inl ⟨by rfl, ?_⟩) (by assumption) ?_
      rotate_left
      · (intro W hSw; (try dsimp only at hSw); go_simp; try with_reducible rfl)
      try simp only [List.getElem_toArray, List.getElem_cons_zero, List.getElem_cons_succ, Act.put, List.setIfInBounds_toArray, List.set_cons_zero, List.set_cons_succ]
      refine wpAnyH_take (i := 8) rfl (by kernel_rfl) (by kernel_rfl) (by kernel_rfl) (fun _ _ _ h => h) (Or.inr ⟨by rfl, rfl⟩) (by assumption) ?_
      try simp only [List.getElem_toArray, List.getElem_cons_zero, List.getElem_cons_succ, Act.put, List.setIfInBounds_toArray, List.set_cons_zero, List.set_cons_succ]
      refine wpAnyH_take (i := 9) rfl (by kernel_rfl) (by kernel_rfl) (by kernel_rfl) (fun _ _ _ h => h) (Or.inr ⟨by rfl, rfl⟩) (by assumption) ?_
      try simp only [List.getElem_toArray, List.getElem_cons_zero, List.getElem_cons_succ, Act.put, List.setIfInBounds_toArray, List.set_cons_zero, List.set_cons_succ]
      refine wpAnyH_take (i := 10) (v := ?_) rfl (by kernel_rfl) (by kernel_rfl) (by kernel_rfl) (fun _ _ _ h => h) (Or.inl ⟨by rfl, ?_⟩) (by assumption) ?_
      rotate_left
      · (intro W hSw; (try dsimp only at hSw); go_simp; try with_reducible rfl)
      try simp only [List.getElem_toArray, List.getElem_cons_zero, List.getElem_cons_succ, Act.put, List.setIfInBounds_toArray, List.set_cons_zero, List.set_cons_succ]
      refine wpAnyH_take (i := 11) (v := ?_) rfl (by kernel_rfl) (by kernel_rfl) (by kernel_rfl) (fun _ _ _ h => h) (Or.inl ⟨by rfl, ?_⟩) (by assumption) ?_
      rotate_left
      · (intro W hSw; (try dsimp only at hSw); go_simp; try with_reducible rfl)
      try simp only [List.getElem_toArray, List.getElem_cons_zero, List.getElem_cons_succ, Act.put, List.setIfInBounds_toArray, List.set_cons_zero, List.set_cons_succ]
      refine wpAnyH_take (i := 12) rfl (by kernel_rfl) (by kernel_rfl) (by kernel_rfl) (fun _ _ _ h => h) (Or.inr ⟨by rfl, rfl⟩) (by assumption) ?_
      try simp only [List.getElem_toArray, List.getElem_cons_zero, List.getElem_cons_succ, Act.put, List.setIfInBounds_toArray, List.set_cons_zero, List.set_cons_succ]
      refine wpAnyH_take (i := 13) rfl (by kernel_rfl) (by kernel_rfl) (by kernel_rfl) (fun _ _ _ h => h) (Or.inr ⟨by rfl, rfl⟩) (by assumption) ?_
      try simp only [List.getElem_toArray, List.getElem_cons_zero, List.getElem_cons_succ, Act.put, List.setIfInBounds_toArray, List.set_cons_zero, List.set_cons_succ]
      refine wpAnyH_take (i := 14) rfl (by kernel_rfl) (by kernel_rfl) (by kernel_rfl) (fun _ _ _ h => h) (Or.inr ⟨by rfl, rfl⟩) (by assumption) ?_
      try simp only [List.getElem_toArray, List.getElem_cons_zero, List.getElem_cons_succ, Act.put, List.setIfInBounds_toArray, List.set_cons_zero, List.set_cons_succ]
      refine wpAnyH_take (i := 15) rfl (by kernel_rfl) (by kernel_rfl) (by kernel_rfl) (fun _ _ _ h => h) (Or.inr ⟨by rfl, rfl⟩) (by assumption) ?_
      try simp only [List.getElem_toArray, List.getElem_cons_zero, List.getElem_cons_succ, Act.put, List.setIfInBounds_toArray, List.set_cons_zero, List.set_cons_succ]
      refine wpAnyH_take (i := 16) (v := ?_) rfl (by kernel_rfl) (by kernel_rfl) (by kernel_rfl) (fun _ _ _ h => h) (Or.inl ⟨by rfl, ?_⟩) (by assumption) ?_
      rotate_left
      · (intro W hSw; (try dsimp only at hSw); go_simp; try with_reducible rfl)
      try simp only [List.getElem_toArray, List.getElem_cons_zero, List.getElem_cons_succ, Act.put, List.setIfInBounds_toArray, List.set_cons_zero, List.set_cons_succ]
      have hbz := hHeld.1
      refine wpAnyH_ready (rs := [17]) (by kernel_rfl) (by simp) ?_
      refine AllReadyH.cons rfl (fun K hK => ?_) AllReadyH.nil
      obtain ⟨_, _, ⟨j0, j1, j2, j3, j4, j5⟩, ⟨i0, i1, i2, i3, i4, i5⟩⟩ := hHeld
      go_simp
      refine hK.out _ _ ?_ (fun hHeld => ?_)
      · (try dsimp only); exact (hbz.six ⟨x0, x1, n2, n3, x4, x5⟩).all
      clear hK K
      try simp only [List.getElem_toArray, List.getElem_cons_zero, List.getElem_cons_succ, Act.put, List.setIfInBounds_toArray, List.set_cons_zero, List.set_cons_succ]
      refine wpAnyH_take (i := 18) (v := ?_) rfl (by kernel_rfl) (by kernel_rfl) (by kernel_rfl) (fun _ _ _ h => h) (Or.inl ⟨by rfl, ?_⟩) (by assumption) ?_
      rotate_left
      · (intro W hSw; (try dsimp only at hSw); go_simp; try with_reducible rfl)
      try simp only [List.getElem_toArray, List.getElem_cons_zero, List.getElem_cons_succ, Act.put, List.setIfInBounds_toArray, List.set_cons_zero, List.set_cons_succ]
      refine wpAnyH_done (by kernel_rfl) ?_ _
      obtain ⟨g, hg⟩ := hbz.row
      go_wp2
      exact leave16 w.heap.size rfl rfl (sixW_at hg ⟨x0, x1, n2, n3, x4, x5⟩) ⟨_, false, rfl, sixW_below hbz.below (Nat.le_refl _) _ _ _ _ _ _, (fun h => by cases h), fun _ => HNO.out⟩
  · have h61 : ((X.length : Int) != 6) = true := by
      simp; omega
    have HNO : Hid (∀ v, ¬ IsLine s.data.toList v) := Lib.hid (fun v h => by
      have := congrArg List.length (HD.out v h)
      simp at this
      exact h6 this)
    obtain ⟨⟨e0, e1, e2, e3, e4, e5⟩, ⟨z0, z1, z2, z3, z4, z5⟩⟩ := six_facts HH1.out
    go_wp2
    exact leave16 w.heap.size rfl rfl (sixW_at HH1.out zeroU) ⟨zeroU, false, rfl, sixW_below HB1.out (Nat.le_refl _) _ _ _ _ _ _, (fun h => by cases h), fun _ => HNO.out⟩
end Go.Proofs.YtmfbmjnoepcigaaGreatDoor
