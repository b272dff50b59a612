/- Part 3 of the proof: contracts of functions that the statement reaches, and plain lemmas. -/
import Derived.Test.YtlhlehdajkoogaaGreatDoorAll1
import Derived.Maps.AppendAt
import Derived.Test.YtlhlehdajkoogaaGreatDoorAll0
import Derived.Laws.Bits128
import Derived.Laws.OwnMore
import Derived.Laws.StructEq
set_option linter.unusedSimpArgs false
set_option linter.unusedVariables false
/- A line is read: the walk. -/
namespace Go.Proofs.Pw
open Go.RowKit

set_option maxHeartbeats 16000000 in
set_option maxRecDepth 100000 in
theorem read_any (s : ByteArray) (w : World) (hs : s.size ≤ 1000000) (hW : HasW w) : Calls Tryz.prog 168 #[.string s] w (ReadP s w) := by
  have HW := Lib.hid hW
  have HSZ := Lib.hid hs
  have hb0 : Below w.heap.size w (w.alloc (.cells (userC zeroU) 47)) := (Below.refl _ _).alloc (Nat.le_refl _) _
  obtain ⟨m, hm⟩ := (hW.below hb0).max
  have HSP := Lib.hid (Tryz.strings_Split s ⟨#[58]⟩ m (w.alloc (.cells (userC zeroU) 47)) (by omega) hm (by decide))
  have HX := Lib.hid (fun x (hx : x ∈ pieces s) => Nat.le_trans (piece_size ⟨#[58]⟩ _ s x hx) hs)
  have HB0 := Lib.hid hb0
  have hh0 := at_new w (.cells (userC zeroU) 47)
  have HH0 := Lib.hid hh0
  clear hW hs hb0 hm hh0
  go_enter Tryz.func168, Tryz.ntmps168
  go_wp2_with fail
  refine HSP.out.mono ?_
  rintro e w1 ⟨rfl, hw1⟩
  have hlen := pieces_len s
  have hw1' : w1 = (w.alloc (.cells (userC zeroU) 47)).alloc (.cells ((pieces s).map Value.string).toArray 9) := hw1
  rw [← hlen]
  have HD : Hid (∀ v, IsLine s.data.toList v → (pieces s).map (·.data.toList) = [v.name.data.toList, v.pass.data.toList, decD v.id.toNat, decD v.group.toNat, v.home.data.toList, v.shell.data.toList]) := Lib.hid (fun v h => line_pieces h)
  have HPD := Lib.hid (pieces_data s)
  clear hw1 hlen HSP
  generalize pieces s = X at *
  have hb1 : Below (w.alloc (.cells (userC zeroU) 47)).heap.size (w.alloc (.cells (userC zeroU) 47)) w1 := by rw [hw1']; exact (Below.refl _ _).alloc (Nat.le_refl _) _
  have HB1 := Lib.hid (HB0.out.trans (hb1.mono HB0.out.size))
  have HH1 := Lib.hid (below_heap hb1 HH0.out)
  have hc1 : ∀ j x, X[j]? = some x → w1.cell? ⟨(w.alloc (.cells (userC zeroU) 47)).heap.size, j, none⟩ = some (.string x) := fun j x hx => by
    rw [hw1', heap_cell (at_new _ _) j]
    simp [hx]
  have HC1 := Lib.hid hc1
  clear hb1 hc1 hw1' HB0 HH0
  by_cases h6 : X.length = 6
  · obtain ⟨x0, x1, x2, x3, x4, x5, rfl⟩ : ∃ x0 x1 x2 x3 x4 x5, X = [x0, x1, x2, x3, x4, x5] := by
      match X, h6 with
      | [x0, x1, x2, x3, x4, x5], _ => exact ⟨x0, x1, x2, x3, x4, x5, rfl⟩
    generalize hn1 : (w.alloc (.cells (userC zeroU) 47)).heap.size = n1 at *
    have q0 := HC1.out 0 x0 rfl
    have q1 := HC1.out 1 x1 rfl
    have q2 := HC1.out 2 x2 rfl
    have q3 := HC1.out 3 x3 rfl
    have q4 := HC1.out 4 x4 rfl
    have q5 := HC1.out 5 x5 rfl
    have z2 := HX.out x2 (by simp)
    have z3 := HX.out x3 (by simp)
    go_wp2_with fail
    refine (pu_any x2 w1 z2 (HW.out.below HB1.out)).mono ?_
    rintro e w2 ⟨n2, v2, rfl, l2, hb2, h2⟩
    have HB2 := Lib.hid (HB1.out.trans (hb2.mono HB1.out.size))
    have HH2 := Lib.hid (below_heap hb2 HH1.out)
    have HC2 := Lib.hid (fun j x hx => cell_below (HC1.out j x hx) hb2)
    have H2 := Lib.hid h2
    clear hb2 h2 q0 q1 q2 q3 q4 q5 z2 HC1 HH1 HB1
    have q3 := HC2.out 3 x3 rfl
    go_wp2_with fail
    refine (pu_any x3 w2 z3 (HW.out.below HB2.out)).mono ?_
    rintro e w3 ⟨n3, v3, rfl, l3, hb3, h3⟩
    have HB3 := Lib.hid (HB2.out.trans (hb3.mono HB2.out.size))
    have HH3 := Lib.hid (below_heap hb3 HH2.out)
    have HC3 := Lib.hid (fun j x hx => cell_below (HC2.out j x hx) hb3)
    have H3 := Lib.hid h3
    clear hb3 h3 q3 z3 HC2 HH2 HB2
    have q0 := HC3.out 0 x0 rfl
    have q1 := HC3.out 1 x1 rfl
    have q2 := HC3.out 2 x2 rfl
    have q3 := HC3.out 3 x3 rfl
    have q4 := HC3.out 4 x4 rfl
    have q5 := HC3.out 5 x5 rfl
    have k2 : (n2 : Int) ≤ 65535 := by omega
    have k3 : (n3 : Int) ≤ 65535 := by omega
    have QA := Lib.hid (fun j x hx (o : Obj) => cell_below (HC3.out j x hx) ((Below.refl w3.heap.size w3).alloc (Nat.le_refl _) o))
    have qa0 : ∀ o : Obj, (w3.alloc o).cell? ⟨n1, 0, none⟩ = some (.string x0) := fun o => QA.out 0 x0 rfl o
    have qa1 : ∀ o : Obj, (w3.alloc o).cell? ⟨n1, 1, none⟩ = some (.string x1) := fun o => QA.out 1 x1 rfl o
    have qa4 : ∀ o : Obj, (w3.alloc o).cell? ⟨n1, 4, none⟩ = some (.string x4) := fun o => QA.out 4 x4 rfl o
    have qa5 : ∀ o : Obj, (w3.alloc o).cell? ⟨n1, 5, none⟩ = some (.string x5) := fun o => QA.out 5 x5 rfl o
    go_upto_region 6 with fail
    go_region
    have hb4 : Below w3.heap.size w3 (w3.alloc (.cells (userC ⟨x0, x1, n2, n3, x4, x5⟩) 47)).drew := ((Below.refl _ _).alloc (Nat.le_refl _) _).drew
    have hu4 : UC (w3.alloc (.cells (userC ⟨x0, x1, n2, n3, x4, x5⟩) 47)).drew w3.heap.size 0 ⟨x0, x1, n2, n3, x4, x5⟩ := box_six (u := 47) (Below.refl _ _).drew
    have HB4 := Lib.hid (HB3.out.trans (hb4.mono HB3.out.size))
    have HH4 := Lib.hid (below_heap hb4 HH3.out)
    have HU4 := Lib.hid hu4
    have hW4 : ∃ W4, (w3.alloc (.cells (userC ⟨x0, x1, n2, n3, x4, x5⟩) 47)).drew = W4 := ⟨_, rfl⟩
    obtain ⟨W4, hW4⟩ := hW4
    rw [hW4] at HB4 HH4 HU4
    have hW4' : (w3.alloc (.cells #[.string x0, .string x1, .int .i64 n2, .int .i64 n3, .string x4, .string x5] 47)).drew = W4 := hW4
    rw [hW4']
    have hsz : SzU ⟨x0, x1, n2, n3, x4, x5⟩ := ⟨Nat.le_trans (HX.out x0 (by simp)) (by omega), Nat.le_trans (HX.out x1 (by simp)) (by omega), Nat.le_trans (HX.out x4 (by simp)) (by omega), Nat.le_trans (HX.out x5 (by simp)) (by omega)⟩
    have HSZU := Lib.hid hsz
    have HNE : Hid (w3.heap.size ≠ w.heap.size) := Lib.hid (Nat.ne_of_gt (Array.getElem?_eq_some_iff.1 HH3.out).1)
    clear hb4 hu4 hW4 hW4' hsz qa0 qa1 qa4 qa5 q0 q1 q2 q3 q4 q5 QA HC3 HH3 HB3
    generalize w3.heap.size = n4 at *
    obtain ⟨⟨e0, e1, e2, e3, e4, e5⟩, ⟨z0, z1, z2, z3, z4, z5⟩⟩ := six_facts HH4.out
    obtain ⟨c0, c1, c2, c3, c4, c5⟩ := HU4.out.at0
    simp only [zeroU] at e0 e1 e2 e3 e4 e5
    rcases H2.out with ⟨rfl, p2⟩ | ⟨⟨N, rfl⟩, p2⟩
    · rcases H3.out with ⟨rfl, p3⟩ | ⟨⟨N, rfl⟩, p3⟩
      · have HU : Hid (∀ v, IsLine s.data.toList v → v = ⟨x0, x1, n2, n3, x4, x5⟩) := Lib.hid (fun v hv => read_uniq hv.1 (HD.out v hv) p2 p3)
        clear p2 p3
        have HC0 : Hid (Core w n4 ⟨x0, x1, n2, n3, x4, x5⟩ W4) := Lib.hid ⟨HB4.out, HU4.out, HNE.out, zeroU, HH4.out⟩
        have HMC := fun (W' : World) => may_any ⟨x0, x1, n2, n3, x4, x5⟩ W' HSZU.out
        clear c0 c1 c2 c3 c4 c5 e0 e1 e2 e3 e4 e5 z0 z1 z2 z3 z4 z5
        cases hmay : mayB ⟨x0, x1, n2, n3, x4, x5⟩ with
        | false =>
          rw [hmay] at HMC
          have HMAY := Lib.hid hmay
          clear hmay
          unfold userC at HMC
          go_upto_region 7 with fail
          refine wp_region_held_drew (S := (fun W' => Core w n4 ⟨x0, x1, n2, n3, x4, x5⟩ W' ∧ (W'.cell? ⟨n4, 0, none⟩ = some (.string x0) ∧ W'.cell? ⟨n4, 1, none⟩ = some (.string x1) ∧ W'.cell? ⟨n4, 2, none⟩ = some (.int .i64 n2) ∧ W'.cell? ⟨n4, 3, none⟩ = some (.int .i64 n3) ∧ W'.cell? ⟨n4, 4, none⟩ = some (.string x4) ∧ W'.cell? ⟨n4, 5, none⟩ = some (.string x5)) ∧ (W'.cell? ⟨w.heap.size, 0, none⟩ = some (rdc w W' 0) ∧ W'.cell? ⟨w.heap.size, 1, none⟩ = some (rdc w W' 1) ∧ W'.cell? ⟨w.heap.size, 2, none⟩ = some (rdc w W' 2) ∧ W'.cell? ⟨w.heap.size, 3, none⟩ = some (rdc w W' 3) ∧ W'.cell? ⟨w.heap.size, 4, none⟩ = some (rdc w W' 4) ∧ W'.cell? ⟨w.heap.size, 5, none⟩ = some (rdc w W' 5)) ∧ (W'.frozen? ⟨w.heap.size, 0, none⟩ = false ∧ W'.frozen? ⟨w.heap.size, 1, none⟩ = false ∧ W'.frozen? ⟨w.heap.size, 2, none⟩ = false ∧ W'.frozen? ⟨w.heap.size, 3, none⟩ = false ∧ W'.frozen? ⟨w.heap.size, 4, none⟩ = false ∧ W'.frozen? ⟨w.heap.size, 5, none⟩ = false))) (by kernel_rfl) ((HC0.out.step (Below.refl _ _).drew).all) (fun hHeld => ?_)
          refine wpAnyH_take (i := 0) (v := ?_) rfl (by kernel_rfl) (by kernel_rfl) (by kernel_rfl) (fun _ _ _ h => h) (Or.inl ⟨by rfl, ?_⟩) (by assumption) ?_
          rotate_left
          · (intro W hSw; (try dsimp only at hSw); go_simp; try with_reducible rfl)
          try simp only [List.getElem_toArray, List.getElem_cons_zero, List.getElem_cons_succ, Act.put, List.setIfInBounds_toArray, List.set_cons_zero, List.set_cons_succ]
          refine wpAnyH_take (i := 1) (v := ?_) rfl (by kernel_rfl) (by kernel_rfl) (by kernel_rfl) (fun _ _ _ h => h) (Or.inl ⟨by rfl, ?_⟩) (by assumption) ?_
          rotate_left
          · (intro W hSw; (try dsimp only at hSw); go_simp; try with_reducible rfl)
          try simp only [List.getElem_toArray, List.getElem_cons_zero, List.getElem_cons_succ, Act.put, List.setIfInBounds_toArray, List.set_cons_zero, List.set_cons_succ]
          refine wpAnyH_take (i := 2) (v := ?_) rfl (by kernel_rfl) (by kernel_rfl) (by kernel_rfl) (fun _ _ _ h => h) (Or.inl ⟨by rfl, ?_⟩) (by assumption) ?_
          rotate_left
          · (intro W hSw; (try dsimp only at hSw); go_simp; try with_reducible rfl)
          try simp only [List.getElem_toArray, List.getElem_cons_zero, List.getElem_cons_succ, Act.put, List.setIfInBounds_toArray, List.set_cons_zero, List.set_cons_succ]
          refine wpAnyH_take (i := 3) (v := ?_) rfl (by kernel_rfl) (by kernel_rfl) (by kernel_rfl) (fun _ _ _ h => h) (Or.inl ⟨by rfl, ?_⟩) (by assumption) ?_
          rotate_left
          · (intro W hSw; (try dsimp only at hSw); go_simp; try with_reducible rfl)
          try simp only [List.getElem_toArray, List.getElem_cons_zero, List.getElem_cons_succ, Act.put, List.setIfInBounds_toArray, List.set_cons_zero, List.set_cons_succ]
          refine wpAnyH_take (i := 4) (v := ?_) rfl (by kernel_rfl) (by kernel_rfl) (by kernel_rfl) (fun _ _ _ h => h) (Or.inl ⟨by rfl, ?_⟩) (by assumption) ?_
          rotate_left
          · (intro W hSw; (try dsimp only at hSw); go_simp; try with_reducible rfl)
          try simp only [List.getElem_toArray, List.getElem_cons_zero, List.getElem_cons_succ, Act.put, List.setIfInBounds_toArray, List.set_cons_zero, List.set_cons_succ]
          refine wpAnyH_take (i := 5) (v := ?_) rfl (by kernel_rfl) (by kernel_rfl) (by kernel_rfl) (fun _ _ _ h => h) (Or.inl ⟨by rfl, ?_⟩) (by assumption) ?_
          rotate_left
          · (intro W hSw; (try dsimp only at hSw); go_simp; try with_reducible rfl)
          try simp only [List.getElem_toArray, List.getElem_cons_zero, List.getElem_cons_succ, Act.put, List.setIfInBounds_toArray, List.set_cons_zero, List.set_cons_succ]
          refine wpAnyH_take (i := 6) (v := ?_) rfl (by kernel_rfl) (by kernel_rfl) (by kernel_rfl) (fun _ _ _ h => h) (Or.inl ⟨by rfl, ?_⟩) (by assumption) ?_
          rotate_left
          · (intro W hSw; (try dsimp only at hSw); go_simp; try with_reducible rfl)
          try simp only [List.getElem_toArray, List.getElem_cons_zero, List.getElem_cons_succ, Act.put, List.setIfInBounds_toArray, List.set_cons_zero, List.set_cons_succ]
          refine wpAnyH_take (i := 7) (v := ?_) rfl (by kernel_rfl) (by kernel_rfl) (by kernel_rfl) (fun _ _ _ h => h) (Or.inl ⟨by rfl, ?_⟩) (by assumption) ?_
          rotate_left
          · (intro W hSw; (try dsimp only at hSw); go_simp; try with_reducible rfl)
          try simp only [List.getElem_toArray, List.getElem_cons_zero, List.getElem_cons_succ, Act.put, List.setIfInBounds_toArray, List.set_cons_zero, List.set_cons_succ]
          refine wpAnyH_take (i := 8) (v := ?_) rfl (by kernel_rfl) (by kernel_rfl) (by kernel_rfl) (fun _ _ _ h => h) (Or.inl ⟨by rfl, ?_⟩) (by assumption) ?_
          rotate_left
          · (intro W hSw; (try dsimp only at hSw); go_simp; try with_reducible rfl)
          try simp only [List.getElem_toArray, List.getElem_cons_zero, List.getElem_cons_succ, Act.put, List.setIfInBounds_toArray, List.set_cons_zero, List.set_cons_succ]
          refine wpAnyH_ready (rs := [9]) (by kernel_rfl) (by simp) ?_
          refine AllReadyH.cons rfl (fun K hK => ?_) AllReadyH.nil
          simp only [List.getElem_toArray, List.getElem_cons_zero, List.getElem_cons_succ]
          go_simp
          go_at_call 194
          refine (HMC _).mono ?_
          rintro e w5 ⟨rfl, hb5⟩
          have hbz : Core w n4 ⟨x0, x1, n2, n3, x4, x5⟩ w5 := hHeld.1.step hb5
          refine hK.out _ _ ?_ (fun hHeld => ?_)
          · (try dsimp only); exact hbz.all
          clear hK K
          try simp only [List.getElem_toArray, List.getElem_cons_zero, List.getElem_cons_succ, Act.put, List.setIfInBounds_toArray, List.set_cons_zero, List.set_cons_succ]
          refine wpAnyH_take (i := 10) (v := ?_) rfl (by kernel_rfl) (by kernel_rfl) (by kernel_rfl) (fun _ _ _ h => h) (Or.inl ⟨by rfl, ?_⟩) (by assumption) ?_
          rotate_left
          · (intro W hSw; (try dsimp only at hSw); go_simp; try with_reducible rfl)
          try simp only [List.getElem_toArray, List.getElem_cons_zero, List.getElem_cons_succ, Act.put, List.setIfInBounds_toArray, List.set_cons_zero, List.set_cons_succ]
          refine wpAnyH_take (i := 11) (v := ?_) rfl (by kernel_rfl) (by kernel_rfl) (by kernel_rfl) (fun _ _ _ h => h) (Or.inl ⟨by rfl, ?_⟩) (by assumption) ?_
          rotate_left
          · (intro W hSw; (try dsimp only at hSw); go_simp; try with_reducible rfl)
          try simp only [List.getElem_toArray, List.getElem_cons_zero, List.getElem_cons_succ, Act.put, List.setIfInBounds_toArray, List.set_cons_zero, List.set_cons_succ]
          refine wpAnyH_take (i := 12) rfl (by kernel_rfl) (by kernel_rfl) (by kernel_rfl) (fun _ _ _ h => h) (Or.inr ⟨by rfl, rfl⟩) (by assumption) ?_
          try simp only [List.getElem_toArray, List.getElem_cons_zero, List.getElem_cons_succ, Act.put, List.setIfInBounds_toArray, List.set_cons_zero, List.set_cons_succ]
          refine wpAnyH_take (i := 13) rfl (by kernel_rfl) (by kernel_rfl) (by kernel_rfl) (fun _ _ _ h => h) (Or.inr ⟨by rfl, rfl⟩) (by assumption) ?_
          try simp only [List.getElem_toArray, List.getElem_cons_zero, List.getElem_cons_succ, Act.put, List.setIfInBounds_toArray, List.set_cons_zero, List.set_cons_succ]
          refine wpAnyH_take (i := 14) rfl (by kernel_rfl) (by kernel_rfl) (by kernel_rfl) (fun _ _ _ h => h) (Or.inr ⟨by rfl, rfl⟩) (by assumption) ?_
          try simp only [List.getElem_toArray, List.getElem_cons_zero, List.getElem_cons_succ, Act.put, List.setIfInBounds_toArray, List.set_cons_zero, List.set_cons_succ]
          refine wpAnyH_take (i := 15) rfl (by kernel_rfl) (by kernel_rfl) (by kernel_rfl) (fun _ _ _ h => h) (Or.inr ⟨by rfl, rfl⟩) (by assumption) ?_
          try simp only [List.getElem_toArray, List.getElem_cons_zero, List.getElem_cons_succ, Act.put, List.setIfInBounds_toArray, List.set_cons_zero, List.set_cons_succ]
          refine wpAnyH_take (i := 16) (v := ?_) rfl (by kernel_rfl) (by kernel_rfl) (by kernel_rfl) (fun _ _ _ h => h) (Or.inl ⟨by rfl, ?_⟩) (by assumption) ?_
          rotate_left
          · (intro W hSw; (try dsimp only at hSw); go_simp; try with_reducible rfl)
          try simp only [List.getElem_toArray, List.getElem_cons_zero, List.getElem_cons_succ, Act.put, List.setIfInBounds_toArray, List.set_cons_zero, List.set_cons_succ]
          refine wpAnyH_ready (rs := [17]) (by kernel_rfl) (by simp) ?_
          refine AllReadyH.cons rfl (fun K hK => ?_) AllReadyH.nil
          simp only [List.getElem_toArray, List.getElem_cons_zero, List.getElem_cons_succ]
          obtain ⟨_, _, ⟨j0, j1, j2, j3, j4, j5⟩, ⟨i0, i1, i2, i3, i4, i5⟩⟩ := hHeld
          go_simp
          refine hK.out _ _ ?_ (fun hHeld => ?_)
          · (try dsimp only); exact (hbz.six ⟨x0, x1, n2, n3, x4, x5⟩).all
          clear hK K
          try simp only [List.getElem_toArray, List.getElem_cons_zero, List.getElem_cons_succ, Act.put, List.setIfInBounds_toArray, List.set_cons_zero, List.set_cons_succ]
          refine wpAnyH_take (i := 18) (v := ?_) rfl (by kernel_rfl) (by kernel_rfl) (by kernel_rfl) (fun _ _ _ h => h) (Or.inl ⟨by rfl, ?_⟩) (by assumption) ?_
          rotate_left
          · (intro W hSw; (try dsimp only at hSw); go_simp; try with_reducible rfl)
          try simp only [List.getElem_toArray, List.getElem_cons_zero, List.getElem_cons_succ, Act.put, List.setIfInBounds_toArray, List.set_cons_zero, List.set_cons_succ]
          refine wpAnyH_done (by kernel_rfl) ?_ _
          obtain ⟨g, hg⟩ := hbz.row
          go_wp2
          exact leave16 w.heap.size rfl rfl (sixW_at hg ⟨x0, x1, n2, n3, x4, x5⟩) ⟨_, false, rfl, sixW_below hbz.below (Nat.le_refl _) _ _ _ _ _ _, (fun h => by cases h), fun _ v hv => by
            have hv1 := hv.1
            rw [HU.out v hv, HMAY.out] at hv1
            cases hv1⟩
        | true =>
          rw [hmay] at HMC
          have HMAY := Lib.hid hmay
          have hll := line_len hmay
          have hmp := mayP hmay
          have HLC := fun (W' : World) (hb : Below w.heap.size w W') => line_any ⟨x0, x1, n2, n3, x4, x5⟩ W' (HW.out.below hb) hmp.id0 hmp.id1 hmp.g0 hmp.g1 (by omega)
          obtain ⟨R, hR⟩ : ∃ R : ByteArray, ⟨(lineB ⟨x0, x1, n2, n3, x4, x5⟩).toArray⟩ = R := ⟨_, rfl⟩
          rw [hR] at HLC
          have heq : (R.toList == s.toList) = decide (R = s) := eq_text R s
          obtain ⟨q, hq⟩ : ∃ q, decide (R = s) = q := ⟨_, rfl⟩
          have HQ : Hid (q = true ↔ lineB ⟨x0, x1, n2, n3, x4, x5⟩ = s.data.toList) := Lib.hid (by
            rw [← hq, decide_eq_true_eq, ← hR]
            refine ⟨fun h => by rw [← h], fun h => ?_⟩
            apply ba_eq
            exact h)
          rw [hq] at heq
          clear hmay hll hmp hR hq
          unfold userC at HMC HLC
          go_upto_region 7 with fail
          refine wp_region_held_drew (S := (fun W' => Core w n4 ⟨x0, x1, n2, n3, x4, x5⟩ W' ∧ (W'.cell? ⟨n4, 0, none⟩ = some (.string x0) ∧ W'.cell? ⟨n4, 1, none⟩ = some (.string x1) ∧ W'.cell? ⟨n4, 2, none⟩ = some (.int .i64 n2) ∧ W'.cell? ⟨n4, 3, none⟩ = some (.int .i64 n3) ∧ W'.cell? ⟨n4, 4, none⟩ = some (.string x4) ∧ W'.cell? ⟨n4, 5, none⟩ = some (.string x5)) ∧ (W'.cell? ⟨w.heap.size, 0, none⟩ = some (rdc w W' 0) ∧ W'.cell? ⟨w.heap.size, 1, none⟩ = some (rdc w W' 1) ∧ W'.cell? ⟨w.heap.size, 2, none⟩ = some (rdc w W' 2) ∧ W'.cell? ⟨w.heap.size, 3, none⟩ = some (rdc w W' 3) ∧ W'.cell? ⟨w.heap.size, 4, none⟩ = some (rdc w W' 4) ∧ W'.cell? ⟨w.heap.size, 5, none⟩ = some (rdc w W' 5)) ∧ (W'.frozen? ⟨w.heap.size, 0, none⟩ = false ∧ W'.frozen? ⟨w.heap.size, 1, none⟩ = false ∧ W'.frozen? ⟨w.heap.size, 2, none⟩ = false ∧ W'.frozen? ⟨w.heap.size, 3, none⟩ = false ∧ W'.frozen? ⟨w.heap.size, 4, none⟩ = false ∧ W'.frozen? ⟨w.heap.size, 5, none⟩ = false))) (by kernel_rfl) ((HC0.out.step (Below.refl _ _).drew).all) (fun hHeld => ?_)
          refine wpAnyH_take (i := 0) (v := ?_) rfl (by kernel_rfl) (by kernel_rfl) (by kernel_rfl) (fun _ _ _ h => h) (Or.inl ⟨by rfl, ?_⟩) (by assumption) ?_
          rotate_left
          · (intro W hSw; (try dsimp only at hSw); go_simp; try with_reducible rfl)
          try simp only [List.getElem_toArray, List.getElem_cons_zero, List.getElem_cons_succ, Act.put, List.setIfInBounds_toArray, List.set_cons_zero, List.set_cons_succ]
          refine wpAnyH_take (i := 1) (v := ?_) rfl (by kernel_rfl) (by kernel_rfl) (by kernel_rfl) (fun _ _ _ h => h) (Or.inl ⟨by rfl, ?_⟩) (by assumption) ?_
          rotate_left
          · (intro W hSw; (try dsimp only at hSw); go_simp; try with_reducible rfl)
          try simp only [List.getElem_toArray, List.getElem_cons_zero, List.getElem_cons_succ, Act.put, List.setIfInBounds_toArray, List.set_cons_zero, List.set_cons_succ]
          refine wpAnyH_take (i := 2) (v := ?_) rfl (by kernel_rfl) (by kernel_rfl) (by kernel_rfl) (fun _ _ _ h => h) (Or.inl ⟨by rfl, ?_⟩) (by assumption) ?_
          rotate_left
          · (intro W hSw; (try dsimp only at hSw); go_simp; try with_reducible rfl)
          try simp only [List.getElem_toArray, List.getElem_cons_zero, List.getElem_cons_succ, Act.put, List.setIfInBounds_toArray, List.set_cons_zero, List.set_cons_succ]
          refine wpAnyH_take (i := 3) (v := ?_) rfl (by kernel_rfl) (by kernel_rfl) (by kernel_rfl) (fun _ _ _ h => h) (Or.inl ⟨by rfl, ?_⟩) (by assumption) ?_
          rotate_left
          · (intro W hSw; (try dsimp only at hSw); go_simp; try with_reducible rfl)
          try simp only [List.getElem_toArray, List.getElem_cons_zero, List.getElem_cons_succ, Act.put, List.setIfInBounds_toArray, List.set_cons_zero, List.set_cons_succ]
          refine wpAnyH_take (i := 4) (v := ?_) rfl (by kernel_rfl) (by kernel_rfl) (by kernel_rfl) (fun _ _ _ h => h) (Or.inl ⟨by rfl, ?_⟩) (by assumption) ?_
          rotate_left
          · (intro W hSw; (try dsimp only at hSw); go_simp; try with_reducible rfl)
          try simp only [List.getElem_toArray, List.getElem_cons_zero, List.getElem_cons_succ, Act.put, List.setIfInBounds_toArray, List.set_cons_zero, List.set_cons_succ]
          refine wpAnyH_take (i := 5) (v := ?_) rfl (by kernel_rfl) (by kernel_rfl) (by kernel_rfl) (fun _ _ _ h => h) (Or.inl ⟨by rfl, ?_⟩) (by assumption) ?_
          rotate_left
          · (intro W hSw; (try dsimp only at hSw); go_simp; try with_reducible rfl)
          try simp only [List.getElem_toArray, List.getElem_cons_zero, List.getElem_cons_succ, Act.put, List.setIfInBounds_toArray, List.set_cons_zero, List.set_cons_succ]
          refine wpAnyH_take (i := 6) (v := ?_) rfl (by kernel_rfl) (by kernel_rfl) (by kernel_rfl) (fun _ _ _ h => h) (Or.inl ⟨by rfl, ?_⟩) (by assumption) ?_
          rotate_left
          · (intro W hSw; (try dsimp only at hSw); go_simp; try with_reducible rfl)
          try simp only [List.getElem_toArray, List.getElem_cons_zero, List.getElem_cons_succ, Act.put, List.setIfInBounds_toArray, List.set_cons_zero, List.set_cons_succ]
          refine wpAnyH_take (i := 7) (v := ?_) rfl (by kernel_rfl) (by kernel_rfl) (by kernel_rfl) (fun _ _ _ h => h) (Or.inl ⟨by rfl, ?_⟩) (by assumption) ?_
          rotate_left
          · (intro W hSw; (try dsimp only at hSw); go_simp; try with_reducible rfl)
          try simp only [List.getElem_toArray, List.getElem_cons_zero, List.getElem_cons_succ, Act.put, List.setIfInBounds_toArray, List.set_cons_zero, List.set_cons_succ]
          refine wpAnyH_take (i := 8) (v := ?_) rfl (by kernel_rfl) (by kernel_rfl) (by kernel_rfl) (fun _ _ _ h => h) (Or.inl ⟨by rfl, ?_⟩) (by assumption) ?_
          rotate_left
          · (intro W hSw; (try dsimp only at hSw); go_simp; try with_reducible rfl)
          try simp only [List.getElem_toArray, List.getElem_cons_zero, List.getElem_cons_succ, Act.put, List.setIfInBounds_toArray, List.set_cons_zero, List.set_cons_succ]
          refine wpAnyH_ready (rs := [9]) (by kernel_rfl) (by simp) ?_
          refine AllReadyH.cons rfl (fun K hK => ?_) AllReadyH.nil
          simp only [List.getElem_toArray, List.getElem_cons_zero, List.getElem_cons_succ]
          go_simp
          go_at_call 194
          refine (HMC _).mono ?_
          rintro e w5 ⟨rfl, hb5⟩
          have hbz : Core w n4 ⟨x0, x1, n2, n3, x4, x5⟩ w5 := hHeld.1.step hb5
          refine hK.out _ _ ?_ (fun hHeld => ?_)
          · (try dsimp only); exact hbz.all
          clear hK K
          try simp only [List.getElem_toArray, List.getElem_cons_zero, List.getElem_cons_succ, Act.put, List.setIfInBounds_toArray, List.set_cons_zero, List.set_cons_succ]
          refine wpAnyH_take (i := 10) (v := ?_) rfl (by kernel_rfl) (by kernel_rfl) (by kernel_rfl) (fun _ _ _ h => h) (Or.inl ⟨by rfl, ?_⟩) (by assumption) ?_
          rotate_left
          · (intro W hSw; (try dsimp only at hSw); go_simp; try with_reducible rfl)
          try simp only [List.getElem_toArray, List.getElem_cons_zero, List.getElem_cons_succ, Act.put, List.setIfInBounds_toArray, List.set_cons_zero, List.set_cons_succ]
          refine wpAnyH_take (i := 11) (v := ?_) rfl (by kernel_rfl) (by kernel_rfl) (by kernel_rfl) (fun _ _ _ h => h) (Or.inl ⟨by rfl, ?_⟩) (by assumption) ?_
          rotate_left
          · (intro W hSw; (try dsimp only at hSw); go_simp; try with_reducible rfl)
          try simp only [List.getElem_toArray, List.getElem_cons_zero, List.getElem_cons_succ, Act.put, List.setIfInBounds_toArray, List.set_cons_zero, List.set_cons_succ]
          refine wpAnyH_take (i := 12) (v := ?_) rfl (by kernel_rfl) (by kernel_rfl) (by kernel_rfl) (fun _ _ _ h => h) (Or.inl ⟨by rfl, ?_⟩) (by assumption) ?_
          rotate_left
          · (intro W hSw; (try dsimp only at hSw); go_simp; try with_reducible rfl)
          try simp only [List.getElem_toArray, List.getElem_cons_zero, List.getElem_cons_succ, Act.put, List.setIfInBounds_toArray, List.set_cons_zero, List.set_cons_succ]
          refine wpAnyH_take (i := 14) (v := ?_) rfl (by kernel_rfl) (by kernel_rfl) (by kernel_rfl) (fun _ _ _ h => h) (Or.inl ⟨by rfl, ?_⟩) (by assumption) ?_
          rotate_left
          · (intro W hSw; (try dsimp only at hSw); go_simp; try with_reducible rfl)
          try simp only [List.getElem_toArray, List.getElem_cons_zero, List.getElem_cons_succ, Act.put, List.setIfInBounds_toArray, List.set_cons_zero, List.set_cons_succ]
          clear hbz hb5 HMC
          refine wpAnyH_ready (rs := [13]) (by kernel_rfl) (by simp) ?_
          refine AllReadyH.cons rfl (fun K hK => ?_) AllReadyH.nil
          simp only [List.getElem_toArray, List.getElem_cons_zero, List.getElem_cons_succ]
          go_simp
          go_at_call 195
          refine (HLC _ hHeld.1.below).mono ?_
          rintro e w6 ⟨rfl, hb6⟩
          have hbz : Core w n4 ⟨x0, x1, n2, n3, x4, x5⟩ w6 := hHeld.1.step hb6
          refine hK.out _ _ ?_ (fun hHeld => ?_)
          · (try dsimp only); exact hbz.all
          clear hK K
          try simp only [List.getElem_toArray, List.getElem_cons_zero, List.getElem_cons_succ, Act.put, List.setIfInBounds_toArray, List.set_cons_zero, List.set_cons_succ]
          refine wpAnyH_take (i := 15) (v := ?_) rfl (by kernel_rfl) (by kernel_rfl) (by kernel_rfl) (fun _ _ _ h => h) (Or.inl ⟨by rfl, ?_⟩) (by assumption) ?_
          rotate_left
          · (intro W hSw; (try dsimp only at hSw); go_simp; try with_reducible rfl)
          try simp only [List.getElem_toArray, List.getElem_cons_zero, List.getElem_cons_succ, Act.put, List.setIfInBounds_toArray, List.set_cons_zero, List.set_cons_succ]
          refine wpAnyH_take (i := 16) (v := ?_) rfl (by kernel_rfl) (by kernel_rfl) (by kernel_rfl) (fun _ _ _ h => h) (Or.inl ⟨by rfl, ?_⟩) (by assumption) ?_
          rotate_left
          · (intro W hSw; (try dsimp only at hSw); go_simp; try with_reducible rfl)
          try simp only [List.getElem_toArray, List.getElem_cons_zero, List.getElem_cons_succ, Act.put, List.setIfInBounds_toArray, List.set_cons_zero, List.set_cons_succ]
          refine wpAnyH_ready (rs := [17]) (by kernel_rfl) (by simp) ?_
          refine AllReadyH.cons rfl (fun K hK => ?_) AllReadyH.nil
          simp only [List.getElem_toArray, List.getElem_cons_zero, List.getElem_cons_succ]
          obtain ⟨_, _, ⟨j0, j1, j2, j3, j4, j5⟩, ⟨i0, i1, i2, i3, i4, i5⟩⟩ := hHeld
          go_simp
          refine hK.out _ _ ?_ (fun hHeld => ?_)
          · (try dsimp only); exact (hbz.six ⟨x0, x1, n2, n3, x4, x5⟩).all
          clear hK K
          try simp only [List.getElem_toArray, List.getElem_cons_zero, List.getElem_cons_succ, Act.put, List.setIfInBounds_toArray, List.set_cons_zero, List.set_cons_succ]
          refine wpAnyH_take (i := 18) (v := ?_) rfl (by kernel_rfl) (by kernel_rfl) (by kernel_rfl) (fun _ _ _ h => h) (Or.inl ⟨by rfl, ?_⟩) (by assumption) ?_
          rotate_left
          · (intro W hSw; (try dsimp only at hSw); go_simp; try with_reducible rfl)
          try simp only [List.getElem_toArray, List.getElem_cons_zero, List.getElem_cons_succ, Act.put, List.setIfInBounds_toArray, List.set_cons_zero, List.set_cons_succ]
          refine wpAnyH_done (by kernel_rfl) ?_ _
          obtain ⟨g, hg⟩ := hbz.row
          go_wp2
          exact leave16 w.heap.size rfl rfl (sixW_at hg ⟨x0, x1, n2, n3, x4, x5⟩) ⟨_, q, rfl, sixW_below hbz.below (Nat.le_refl _) _ _ _ _ _ _, (fun h => ⟨HMAY.out, HQ.out.1 h⟩), fun h v hv => by
            have hv2 := hv.2
            rw [HU.out v hv] at hv2
            rw [HQ.out.2 hv2] at h
            cases h⟩
      · have HNO : Hid (∀ v, ¬ IsLine s.data.toList v) := Lib.hid (fun v hv => p3 _ (read_two hv.1 (HD.out v hv)).2)
        clear p2 p3
        have HC0 : Hid (Core w n4 ⟨x0, x1, n2, n3, x4, x5⟩ W4) := Lib.hid ⟨HB4.out, HU4.out, HNE.out, zeroU, HH4.out⟩
        clear c0 c1 c2 c3 c4 c5 e0 e1 e2 e3 e4 e5 z0 z1 z2 z3 z4 z5
        go_upto_region 7 with fail
        refine wp_region_held_drew (S := (fun W' => Core w n4 ⟨x0, x1, n2, n3, x4, x5⟩ W' ∧ (W'.cell? ⟨n4, 0, none⟩ = some (.string x0) ∧ W'.cell? ⟨n4, 1, none⟩ = some (.string x1) ∧ W'.cell? ⟨n4, 2, none⟩ = some (.int .i64 n2) ∧ W'.cell? ⟨n4, 3, none⟩ = some (.int .i64 n3) ∧ W'.cell? ⟨n4, 4, none⟩ = some (.string x4) ∧ W'.cell? ⟨n4, 5, none⟩ = some (.string x5)) ∧ (W'.cell? ⟨w.heap.size, 0, none⟩ = some (rdc w W' 0) ∧ W'.cell? ⟨w.heap.size, 1, none⟩ = some (rdc w W' 1) ∧ W'.cell? ⟨w.heap.size, 2, none⟩ = some (rdc w W' 2) ∧ W'.cell? ⟨w.heap.size, 3, none⟩ = some (rdc w W' 3) ∧ W'.cell? ⟨w.heap.size, 4, none⟩ = some (rdc w W' 4) ∧ W'.cell? ⟨w.heap.size, 5, none⟩ = some (rdc w W' 5)) ∧ (W'.frozen? ⟨w.heap.size, 0, none⟩ = false ∧ W'.frozen? ⟨w.heap.size, 1, none⟩ = false ∧ W'.frozen? ⟨w.heap.size, 2, none⟩ = false ∧ W'.frozen? ⟨w.heap.size, 3, none⟩ = false ∧ W'.frozen? ⟨w.heap.size, 4, none⟩ = false ∧ W'.frozen? ⟨w.heap.size, 5, none⟩ = false))) (by kernel_rfl) ((HC0.out.step (Below.refl _ _).drew).all) (fun hHeld => ?_)
        generalize W4.drew = w5 at *
        refine wpAnyH_take (i := 0) (v := ?_) rfl (by kernel_rfl) (by kernel_rfl) (by kernel_rfl) (fun _ _ _ h => h) (Or.inl ⟨by rfl, ?_⟩) (by assumption) ?_
        rotate_left
        · (intro W hSw; (try dsimp only at hSw); go_simp; try with_reducible rfl)
        try simp only [List.getElem_toArray, List.getElem_cons_zero, List.getElem_cons_succ, Act.put, List.setIfInBounds_toArray, List.set_cons_zero, List.set_cons_succ]
        refine wpAnyH_take (i := 1) (v := ?_) rfl (by kernel_rfl) (by kernel_rfl) (by kernel_rfl) (fun _ _ _ h => h) (Or.inl ⟨by rfl, ?_⟩) (by assumption) ?_
        rotate_left
        · (intro W hSw; (try dsimp only at hSw); go_simp; try with_reducible rfl)
        try simp only [List.getElem_toArray, List.getElem_cons_zero, List.getElem_cons_succ, Act.put, List.setIfInBounds_toArray, List.set_cons_zero, List.set_cons_succ]
        refine wpAnyH_take (i := 2) (v := ?_) rfl (by kernel_rfl) (by kernel_rfl) (by kernel_rfl) (fun _ _ _ h => h) (Or.inl ⟨by rfl, ?_⟩) (by assumption) ?_
        rotate_left
        · (intro W hSw; (try dsimp only at hSw); go_simp; try with_reducible rfl)
        try simp only [List.getElem_toArray, List.getElem_cons_zero, List.getElem_cons_succ, Act.put, List.setIfInBounds_toArray, List.set_cons_zero, List.set_cons_succ]
        refine wpAnyH_take (i := 3) (v := ?_) rfl (by kernel_rfl) (by kernel_rfl) (by kernel_rfl) (fun _ _ _ h => h) (Or.inl ⟨by rfl, ?_⟩) (by assumption) ?_
        rotate_left
        · (intro W hSw; (try dsimp only at hSw); go_simp; try with_reducible rfl)
        try simp only [List.getElem_toArray, List.getElem_cons_zero, List.getElem_cons_succ, Act.put, List.setIfInBounds_toArray, List.set_cons_zero, List.set_cons_succ]
        refine wpAnyH_take (i := 4) (v := ?_) rfl (by kernel_rfl) (by kernel_rfl) (by kernel_rfl) (fun _ _ _ h => h) (Or.inl ⟨by rfl, ?_⟩) (by assumption) ?_
        rotate_left
        · (intro W hSw; (try dsimp only at hSw); go_simp; try with_reducible rfl)
        try simp only [List.getElem_toArray, List.getElem_cons_zero, List.getElem_cons_succ, Act.put, List.setIfInBounds_toArray, List.set_cons_zero, List.set_cons_succ]
        refine wpAnyH_take (i := 5) (v := ?_) rfl (by kernel_rfl) (by kernel_rfl) (by kernel_rfl) (fun _ _ _ h => h) (Or.inl ⟨by rfl, ?_⟩) (by assumption) ?_
        rotate_left
        · (intro W hSw; (try dsimp only at hSw); go_simp; try with_reducible rfl)
        try simp only [List.getElem_toArray, List.getElem_cons_zero, List.getElem_cons_succ, Act.put, List.setIfInBounds_toArray, List.set_cons_zero, List.set_cons_succ]
        refine wpAnyH_take (i := 6) (v := ?_) rfl (by kernel_rfl) (by kernel_rfl) (by kernel_rfl) (fun _ _ _ h => h) (Or.inl ⟨by rfl, ?_⟩) (by assumption) ?_
        rotate_left
        · (intro W hSw; (try dsimp only at hSw); go_simp; try with_reducible rfl)
        try simp only [List.getElem_toArray, List.getElem_cons_zero, List.getElem_cons_succ, Act.put, List.setIfInBounds_toArray, List.set_cons_zero, List.set_cons_succ]
        refine wpAnyH_take (i := 7) (v := ?_) rfl (by kernel_rfl) (by kernel_rfl) (by kernel_rfl) (fun _ _ _ h => h) (Or.inl ⟨by rfl, ?_⟩) (by assumption) ?_
        rotate_left
        · (intro W hSw; (try dsimp only at hSw); go_simp; try with_reducible rfl)
        try simp only [List.getElem_toArray, List.getElem_cons_zero, List.getElem_cons_succ, Act.put, List.setIfInBounds_toArray, List.set_cons_zero, List.set_cons_succ]
        refine wpAnyH_take (i := 8) rfl (by kernel_rfl) (by kernel_rfl) (by kernel_rfl) (fun _ _ _ h => h) (Or.inr ⟨by rfl, rfl⟩) (by assumption) ?_
        try simp only [List.getElem_toArray, List.getElem_cons_zero, List.getElem_cons_succ, Act.put, List.setIfInBounds_toArray, List.set_cons_zero, List.set_cons_succ]
        refine wpAnyH_take (i := 9) rfl (by kernel_rfl) (by kernel_rfl) (by kernel_rfl) (fun _ _ _ h => h) (Or.inr ⟨by rfl, rfl⟩) (by assumption) ?_
        try simp only [List.getElem_toArray, List.getElem_cons_zero, List.getElem_cons_succ, Act.put, List.setIfInBounds_toArray, List.set_cons_zero, List.set_cons_succ]
        refine wpAnyH_take (i := 10) (v := ?_) rfl (by kernel_rfl) (by kernel_rfl) (by kernel_rfl) (fun _ _ _ h => h) (Or.inl ⟨by rfl, ?_⟩) (by assumption) ?_
        rotate_left
        · (intro W hSw; (try dsimp only at hSw); go_simp; try with_reducible rfl)
        try simp only [List.getElem_toArray, List.getElem_cons_zero, List.getElem_cons_succ, Act.put, List.setIfInBounds_toArray, List.set_cons_zero, List.set_cons_succ]
        refine wpAnyH_take (i := 11) (v := ?_) rfl (by kernel_rfl) (by kernel_rfl) (by kernel_rfl) (fun _ _ _ h => h) (Or.inl ⟨by rfl, ?_⟩) (by assumption) ?_
        rotate_left
        · (intro W hSw; (try dsimp only at hSw); go_simp; try with_reducible rfl)
        try simp only [List.getElem_toArray, List.getElem_cons_zero, List.getElem_cons_succ, Act.put, List.setIfInBounds_toArray, List.set_cons_zero, List.set_cons_succ]
        refine wpAnyH_take (i := 12) rfl (by kernel_rfl) (by kernel_rfl) (by kernel_rfl) (fun _ _ _ h => h) (Or.inr ⟨by rfl, rfl⟩) (by assumption) ?_
        try simp only [List.getElem_toArray, List.getElem_cons_zero, List.getElem_cons_succ, Act.put, List.setIfInBounds_toArray, List.set_cons_zero, List.set_cons_succ]
        refine wpAnyH_take (i := 13) rfl (by kernel_rfl) (by kernel_rfl) (by kernel_rfl) (fun _ _ _ h => h) (Or.inr ⟨by rfl, rfl⟩) (by assumption) ?_
        try simp only [List.getElem_toArray, List.getElem_cons_zero, List.getElem_cons_succ, Act.put, List.setIfInBounds_toArray, List.set_cons_zero, List.set_cons_succ]
        refine wpAnyH_take (i := 14) rfl (by kernel_rfl) (by kernel_rfl) (by kernel_rfl) (fun _ _ _ h => h) (Or.inr ⟨by rfl, rfl⟩) (by assumption) ?_
        try simp only [List.getElem_toArray, List.getElem_cons_zero, List.getElem_cons_succ, Act.put, List.setIfInBounds_toArray, List.set_cons_zero, List.set_cons_succ]
        refine wpAnyH_take (i := 15) rfl (by kernel_rfl) (by kernel_rfl) (by kernel_rfl) (fun _ _ _ h => h) (Or.inr ⟨by rfl, rfl⟩) (by assumption) ?_
        try simp only [List.getElem_toArray, List.getElem_cons_zero, List.getElem_cons_succ, Act.put, List.setIfInBounds_toArray, List.set_cons_zero, List.set_cons_succ]
        refine wpAnyH_take (i := 16) (v := ?_) rfl (by kernel_rfl) (by kernel_rfl) (by kernel_rfl) (fun _ _ _ h => h) (Or.inl ⟨by rfl, ?_⟩) (by assumption) ?_
        rotate_left
        · (intro W hSw; (try dsimp only at hSw); go_simp; try with_reducible rfl)
        try simp only [List.getElem_toArray, List.getElem_cons_zero, List.getElem_cons_succ, Act.put, List.setIfInBounds_toArray, List.set_cons_zero, List.set_cons_succ]
        have hbz := hHeld.1
        refine wpAnyH_ready (rs := [17]) (by kernel_rfl) (by simp) ?_
        refine AllReadyH.cons rfl (fun K hK => ?_) AllReadyH.nil
        obtain ⟨_, _, ⟨j0, j1, j2, j3, j4, j5⟩, ⟨i0, i1, i2, i3, i4, i5⟩⟩ := hHeld
        go_simp
        refine hK.out _ _ ?_ (fun hHeld => ?_)
        · (try dsimp only); exact (hbz.six ⟨x0, x1, n2, n3, x4, x5⟩).all
        clear hK K
        try simp only [List.getElem_toArray, List.getElem_cons_zero, List.getElem_cons_succ, Act.put, List.setIfInBounds_toArray, List.set_cons_zero, List.set_cons_succ]
        refine wpAnyH_take (i := 18) (v := ?_) rfl (by kernel_rfl) (by kernel_rfl) (by kernel_rfl) (fun _ _ _ h => h) (Or.inl ⟨by rfl, ?_⟩) (by assumption) ?_
        rotate_left
        · (intro W hSw; (try dsimp only at hSw); go_simp; try with_reducible rfl)
        try simp only [List.getElem_toArray, List.getElem_cons_zero, List.getElem_cons_succ, Act.put, List.setIfInBounds_toArray, List.set_cons_zero, List.set_cons_succ]
        refine wpAnyH_done (by kernel_rfl) ?_ _
        obtain ⟨g, hg⟩ := hbz.row
        go_wp2
        exact leave16 w.heap.size rfl rfl (sixW_at hg ⟨x0, x1, n2, n3, x4, x5⟩) ⟨_, false, rfl, sixW_below hbz.below (Nat.le_refl _) _ _ _ _ _ _, (fun h => by cases h), fun _ => HNO.out⟩
    · have HNO : Hid (∀ v, ¬ IsLine s.data.toList v) := Lib.hid (fun v hv => p2 _ (read_two hv.1 (HD.out v hv)).1)
      clear p2
      have HC0 : Hid (Core w n4 ⟨x0, x1, n2, n3, x4, x5⟩ W4) := Lib.hid ⟨HB4.out, HU4.out, HNE.out, zeroU, HH4.out⟩
      clear c0 c1 c2 c3 c4 c5 e0 e1 e2 e3 e4 e5 z0 z1 z2 z3 z4 z5
      go_upto_region 7 with fail
      refine wp_region_held_drew (S := (fun W' => Core w n4 ⟨x0, x1, n2, n3, x4, x5⟩ W' ∧ (W'.cell? ⟨n4, 0, none⟩ = some (.string x0) ∧ W'.cell? ⟨n4, 1, none⟩ = some (.string x1) ∧ W'.cell? ⟨n4, 2, none⟩ = some (.int .i64 n2) ∧ W'.cell? ⟨n4, 3, none⟩ = some (.int .i64 n3) ∧ W'.cell? ⟨n4, 4, none⟩ = some (.string x4) ∧ W'.cell? ⟨n4, 5, none⟩ = some (.string x5)) ∧ (W'.cell? ⟨w.heap.size, 0, none⟩ = some (rdc w W' 0) ∧ W'.cell? ⟨w.heap.size, 1, none⟩ = some (rdc w W' 1) ∧ W'.cell? ⟨w.heap.size, 2, none⟩ = some (rdc w W' 2) ∧ W'.cell? ⟨w.heap.size, 3, none⟩ = some (rdc w W' 3) ∧ W'.cell? ⟨w.heap.size, 4, none⟩ = some (rdc w W' 4) ∧ W'.cell? ⟨w.heap.size, 5, none⟩ = some (rdc w W' 5)) ∧ (W'.frozen? ⟨w.heap.size, 0, none⟩ = false ∧ W'.frozen? ⟨w.heap.size, 1, none⟩ = false ∧ W'.frozen? ⟨w.heap.size, 2, none⟩ = false ∧ W'.frozen? ⟨w.heap.size, 3, none⟩ = false ∧ W'.frozen? ⟨w.heap.size, 4, none⟩ = false ∧ W'.frozen? ⟨w.heap.size, 5, none⟩ = false))) (by kernel_rfl) ((HC0.out.step (Below.refl _ _).drew).all) (fun hHeld => ?_)
      generalize W4.drew = w5 at *
      refine wpAnyH_take (i := 0) (v := ?_) rfl (by kernel_rfl) (by kernel_rfl) (by kernel_rfl) (fun _ _ _ h => h) (Or.inl ⟨by rfl, ?_⟩) (by assumption) ?_
      rotate_left
      · (intro W hSw; (try dsimp only at hSw); go_simp; try with_reducible rfl)
      try simp only [List.getElem_toArray, List.getElem_cons_zero, List.getElem_cons_succ, Act.put, List.setIfInBounds_toArray, List.set_cons_zero, List.set_cons_succ]
      refine wpAnyH_take (i := 1) (v := ?_) rfl (by kernel_rfl) (by kernel_rfl) (by kernel_rfl) (fun _ _ _ h => h) (Or.inl ⟨by rfl, ?_⟩) (by assumption) ?_
      rotate_left
      · (intro W hSw; (try dsimp only at hSw); go_simp; try with_reducible rfl)
      try simp only [List.getElem_toArray, List.getElem_cons_zero, List.getElem_cons_succ, Act.put, List.setIfInBounds_toArray, List.set_cons_zero, List.set_cons_succ]
      refine wpAnyH_take (i := 2) (v := ?_) rfl (by kernel_rfl) (by kernel_rfl) (by kernel_rfl) (fun _ _ _ h => h) (Or.inl ⟨by rfl, ?_⟩) (by assumption) ?_
      rotate_left
      · (intro W hSw; (try dsimp only at hSw); go_simp; try with_reducible rfl)
      try simp only [List.getElem_toArray, List.getElem_cons_zero, List.getElem_cons_succ, Act.put, List.setIfInBounds_toArray, List.set_cons_zero, List.set_cons_succ]
      refine wpAnyH_take (i := 3) (v := ?_) rfl (by kernel_rfl) (by kernel_rfl) (by kernel_rfl) (fun _ _ _ h => h) (Or.inl ⟨by rfl, ?_⟩) (by assumption) ?_
      rotate_left
      · (intro W hSw; (try dsimp only at hSw); go_simp; try with_reducible rfl)
      try simp only [List.getElem_toArray, List.getElem_cons_zero, List.getElem_cons_succ, Act.put, List.setIfInBounds_toArray, List.set_cons_zero, List.set_cons_succ]
      refine wpAnyH_take (i := 4) rfl (by kernel_rfl) (by kernel_rfl) (by kernel_rfl) (fun _ _ _ h => h) (Or.inr ⟨by rfl, rfl⟩) (by assumption) ?_
      try simp only [List.getElem_toArray, List.getElem_cons_zero, List.getElem_cons_succ, Act.put, List.setIfInBounds_toArray, List.set_cons_zero, List.set_cons_succ]
      refine wpAnyH_take (i := 5) rfl (by kernel_rfl) (by kernel_rfl) (by kernel_rfl) (fun _ _ _ h => h) (Or.inr ⟨by rfl, rfl⟩) (by assumption) ?_
      try simp only [List.getElem_toArray, List.getElem_cons_zero, List.getElem_cons_succ, Act.put, List.setIfInBounds_toArray, List.set_cons_zero, List.set_cons_succ]
      refine wpAnyH_take (i := 6) (v := ?_) rfl (by kernel_rfl) (by kernel_rfl) (by kernel_rfl) (fun _ _ _ h => h) (Or.inl ⟨by rfl, ?_⟩) (by assumption) ?_
      rotate_left
      · (intro W hSw; (try dsimp only at hSw); go_simp; try with_reducible rfl)
      try simp only [List.getElem_toArray, List.getElem_cons_zero, List.getElem_cons_succ, Act.put, List.setIfInBounds_toArray, List.set_cons_zero, List.set_cons_succ]
      refine wpAnyH_take (i := 7) (v := ?_) rfl (by kernel_rfl) (by kernel_rfl) (by kernel_rfl) (fun _ _ _ h => h) (Or.inl ⟨by rfl, ?_⟩) (by assumption) ?_
      rotate_left
      · (intro W hSw; (try dsimp only at hSw); go_simp; try with_reducible rfl)
      try simp only [List.getElem_toArray, List.getElem_cons_zero, List.getElem_cons_succ, Act.put, List.setIfInBounds_toArray, List.set_cons_zero, List.set_cons_succ]
      refine wpAnyH_take (i := 8) rfl (by kernel_rfl) (by kernel_rfl) (by kernel_rfl) (fun _ _ _ h => h) (Or.inr ⟨by rfl, rfl⟩) (by assumption) ?_
      try simp only [List.getElem_toArray, List.getElem_cons_zero, List.getElem_cons_succ, Act.put, List.setIfInBounds_toArray, List.set_cons_zero, List.set_cons_succ]
      refine wpAnyH_take (i := 9) rfl (by kernel_rfl) (by kernel_rfl) (by kernel_rfl) (fun _ _ _ h => h) (Or.inr ⟨by rfl, rfl⟩) (by assumption) ?_
      try simp only [List.getElem_toArray, List.getElem_cons_zero, List.getElem_cons_succ, Act.put, List.setIfInBounds_toArray, List.set_cons_zero, List.set_cons_succ]
      refine wpAnyH_take (i := 10) (v := ?_) rfl (by kernel_rfl) (by kernel_rfl) (by kernel_rfl) (fun _ _ _ h => h) (Or.inl ⟨by rfl, ?_⟩) (by assumption) ?_
      rotate_left
      · (intro W hSw; (try dsimp only at hSw); go_simp; try with_reducible rfl)
      try simp only [List.getElem_toArray, List.getElem_cons_zero, List.getElem_cons_succ, Act.put, List.setIfInBounds_toArray, List.set_cons_zero, List.set_cons_succ]
      refine wpAnyH_take (i := 11) (v := ?_) rfl (by kernel_rfl) (by kernel_rfl) (by kernel_rfl) (fun _ _ _ h => h) (Or.inl ⟨by rfl, ?_⟩) (by assumption) ?_
      rotate_left
      · (intro W hSw; (try dsimp only at hSw); go_simp; try with_reducible rfl)
      try simp only [List.getElem_toArray, List.getElem_cons_zero, List.getElem_cons_succ, Act.put, List.setIfInBounds_toArray, List.set_cons_zero, List.set_cons_succ]
      refine wpAnyH_take (i := 12) rfl (by kernel_rfl) (by kernel_rfl) (by kernel_rfl) (fun _ _ _ h => h) (Or.inr ⟨by rfl, rfl⟩) (by assumption) ?_
      try simp only [List.getElem_toArray, List.getElem_cons_zero, List.getElem_cons_succ, Act.put, List.setIfInBounds_toArray, List.set_cons_zero, List.set_cons_succ]
      refine wpAnyH_take (i := 13) rfl (by kernel_rfl) (by kernel_rfl) (by kernel_rfl) (fun _ _ _ h => h) (Or.inr ⟨by rfl, rfl⟩) (by assumption) ?_
      try simp only [List.getElem_toArray, List.getElem_cons_zero, List.getElem_cons_succ, Act.put, List.setIfInBounds_toArray, List.set_cons_zero, List.set_cons_succ]
      refine wpAnyH_take (i := 14) rfl (by kernel_rfl) (by kernel_rfl) (by kernel_rfl) (fun _ _ _ h => h) (Or.inr ⟨by rfl, rfl⟩) (by assumption) ?_
      try simp only [List.getElem_toArray, List.getElem_cons_zero, List.getElem_cons_succ, Act.put, List.setIfInBounds_toArray, List.set_cons_zero, List.set_cons_succ]
      refine wpAnyH_take (i := 15) rfl (by kernel_rfl) (by kernel_rfl) (by kernel_rfl) (fun _ _ _ h => h) (Or.inr ⟨by rfl, rfl⟩) (by assumption) ?_
      try simp only [List.getElem_toArray, List.getElem_cons_zero, List.getElem_cons_succ, Act.put, List.setIfInBounds_toArray, List.set_cons_zero, List.set_cons_succ]
      refine wpAnyH_take (i := 16) (v := ?_) rfl (by kernel_rfl) (by kernel_rfl) (by kernel_rfl) (fun _ _ _ h => h) (Or.inl ⟨by rfl, ?_⟩) (by assumption) ?_
      rotate_left
      · (intro W hSw; (try dsimp only at hSw); go_simp; try with_reducible rfl)
      try simp only [List.getElem_toArray, List.getElem_cons_zero, List.getElem_cons_succ, Act.put, List.setIfInBounds_toArray, List.set_cons_zero, List.set_cons_succ]
      have hbz := hHeld.1
      refine wpAnyH_ready (rs := [17]) (by kernel_rfl) (by simp) ?_
      refine AllReadyH.cons rfl (fun K hK => ?_) AllReadyH.nil
      obtain ⟨_, _, ⟨j0, j1, j2, j3, j4, j5⟩, ⟨i0, i1, i2, i3, i4, i5⟩⟩ := hHeld
      go_simp
      refine hK.out _ _ ?_ (fun hHeld => ?_)
      · (try dsimp only); exact (hbz.six ⟨x0, x1, n2, n3, x4, x5⟩).all
      clear hK K
      try simp only [List.getElem_toArray, List.getElem_cons_zero, List.getElem_cons_succ, Act.put, List.setIfInBounds_toArray, List.set_cons_zero, List.set_cons_succ]
      refine wpAnyH_take (i := 18) (v := ?_) rfl (by kernel_rfl) (by kernel_rfl) (by kernel_rfl) (fun _ _ _ h => h) (Or.inl ⟨by rfl, ?_⟩) (by assumption) ?_
      rotate_left
      · (intro W hSw; (try dsimp only at hSw); go_simp; try with_reducible rfl)
      try simp only [List.getElem_toArray, List.getElem_cons_zero, List.getElem_cons_succ, Act.put, List.setIfInBounds_toArray, List.set_cons_zero, List.set_cons_succ]
      refine wpAnyH_done (by kernel_rfl) ?_ _
      obtain ⟨g, hg⟩ := hbz.row
      go_wp2
      exact leave16 w.heap.size rfl rfl (sixW_at hg ⟨x0, x1, n2, n3, x4, x5⟩) ⟨_, false, rfl, sixW_below hbz.below (Nat.le_refl _) _ _ _ _ _ _, (fun h => by cases h), fun _ => HNO.out⟩
  · have h61 : ((X.length : Int) != 6) = true := by
      simp; omega
    have HNO : Hid (∀ v, ¬ IsLine s.data.toList v) := Lib.hid (fun v h => by
      have := congrArg List.length (HD.out v h)
      simp at this
      exact h6 this)
    obtain ⟨⟨e0, e1, e2, e3, e4, e5⟩, ⟨z0, z1, z2, z3, z4, z5⟩⟩ := six_facts HH1.out
    go_wp2
    exact leave16 w.heap.size rfl rfl (sixW_at HH1.out zeroU) ⟨zeroU, false, rfl, sixW_below HB1.out (Nat.le_refl _) _ _ _ _ _ _, (fun h => by cases h), fun _ => HNO.out⟩
end Go.Proofs.Pw
/- Users in a row of the call's own; Parse. -/
namespace Go.Proofs.Pw
open Go.RowKit

def cellsU (L : List UserS) : List Value := L.flatMap (fun u => (userC u).toList)
theorem cellsU_nil : cellsU [] = [] := rfl
theorem cellsU_cons (u : UserS) (L : List UserS) : cellsU (u :: L) = (userC u).toList ++ cellsU L := by simp [cellsU]
theorem cellsU_snoc (L : List UserS) (u : UserS) : cellsU (L ++ [u]) = cellsU L ++ (userC u).toList := by simp [cellsU]
theorem userC_len (u : UserS) : (userC u).toList.length = 6 := rfl
theorem cellsU_len : ∀ L : List UserS, (cellsU L).length = L.length * 6
  | [] => rfl
  | u :: L => by rw [cellsU_cons, List.length_append, userC_len, cellsU_len L, List.length_cons]; omega
theorem cellsU_at : ∀ (L : List UserS) (j : Nat) (hj : j < L.length) (i : Nat), i < 6 → (cellsU L)[j * 6 + i]? = (userC L[j])[i]?
  | [], j, hj, _, _ => absurd hj (Nat.not_lt_zero j)
  | u :: L, 0, _, i, hi => by
    rw [cellsU_cons, Nat.zero_mul, Nat.zero_add, List.getElem?_append_left (by rw [userC_len]; exact hi)]
    simp
  | u :: L, j + 1, hj, i, hi => by
    rw [cellsU_cons, List.getElem?_append_right (by rw [userC_len]; omega), userC_len, show (j + 1) * 6 + i - 6 = j * 6 + i by omega]
    have := cellsU_at L j (by simpa using hj) i hi
    simpa using this
theorem own_inU {w : World} {B : Nat} {v : Value} {L : List UserS} (h : w.ownsRow B 47 6 v L.length (cellsU L)) : InU w v L := by
  obtain ⟨hl, h2⟩ := h
  rcases h2 with ⟨rfl, h0⟩ | ⟨g, cap, cur, rfl, hB, hg, hcap, hmax, hsz, htake⟩
  · refine ⟨none, 0, by rw [h0], fun j hj => by omega⟩
  · refine ⟨some ⟨g, 0, none⟩, cap, rfl, fun j hj => ⟨g, 0, rfl, fun i hi => ?_⟩⟩
    rw [heap_cell hg, ← cellsU_at L j hj i hi, ← htake, List.getElem?_take, if_pos (by omega)]
    simp
def OwnU (w : World) (B : Nat) (v : Value) (L : List UserS) : Prop := w.ownsRow B 47 6 v L.length (cellsU L)
theorem OwnU.form {w : World} {B : Nat} {v : Value} {L : List UserS} (h : OwnU w B v L) : ∃ a c, v = .slice a L.length c := by
  obtain ⟨_, ⟨rfl, h0⟩ | ⟨g, cap, cur, rfl, _⟩⟩ := h
  · exact ⟨_, 0, by rw [h0]⟩
  · exact ⟨_, _, rfl⟩
theorem OwnU.grown {w w' : World} {B : Nat} {v : Value} {L : List UserS} (h : OwnU w B v L) (hb : Below w.heap.size w w') : OwnU w' B v L := own_below h hb
/-- What Parse tells. -/
noncomputable def parseR (t : Bytes) : List UserS × Nat × Int :=
  if 4096 < t.length then ([], 0, 10) else match parseL [] 1 t with
    | .ok L => (L, 0, 0)
    | .error (n, e) => ([], n, e)
theorem find_mem (x : ByteArray) (L : List UserS) : (0 ≤ findU (isName x) L 0) ↔ x ∈ namesU L := by
  rcases findU_cases (isName x) L with ⟨h1, h2⟩ | ⟨k, hk, h1, h2, h3⟩
  · rw [h1]
    refine ⟨fun h => by omega, fun h => ?_⟩
    unfold namesU at h
    obtain ⟨u, hu, rfl⟩ := List.mem_map.1 h
    have := h2 u hu
    simp [isName] at this
  · rw [h3]
    refine ⟨fun _ => ?_, fun _ => by omega⟩
    unfold isName at h1
    have h1' : L[k].name = x := by simpa using h1
    exact List.mem_map.2 ⟨L[k], List.getElem_mem _, h1'⟩
theorem info33 : (Tryz.prog.info? 47).map (fun i => (i.zero, i.size, i.bytes)) = some (some (.agg (userC zeroU)), 6, 80) := by kernel_rfl
theorem own_ge {w : World} {base sz n : Nat} {e : TypeId} {v : Value} {xs : List Value} (h : w.ownsRow base e sz v n xs) : ∀ k, v.ownBlock = some k → base ≤ k := fun k hk => (h.lt k hk).1
theorem below_grown {w0 w w' : World} {B : Nat} {row : Option Nat} (h : Below B w0 w) (hB : B ≤ w0.heap.size) (hg : w.grownBy w' row) (hrow : ∀ k, row = some k → B ≤ k) : Below B w0 w' :=
  ⟨hg.os.trans h.os, hg.tape.trans h.tape, hg.output.trans h.output, Nat.le_trans h.size hg.size, fun j hj => (hg.block j (Nat.lt_of_lt_of_le hj (Nat.le_trans hB h.size)) (fun e => by have := hrow j e.symm; omega)).trans (h.block j hj)⟩
def strSz : Value → Nat
  | .string s => s.size
  | _ => 0
theorem parse_long {t : Bytes} (h : 4096 < t.length) : parseR t = ([], 0, 10) := by unfold parseR; rw [if_pos h]
theorem parse_err {t : Bytes} (h : ¬ 4096 < t.length) {n : Nat} {e : Int} (hp : parseL [] 1 t = .error (n, e)) : parseR t = ([], n, e) := by unfold parseR; rw [if_neg h, hp]
theorem parse_ok {t : Bytes} (h : ¬ 4096 < t.length) {L : List UserS} (hp : parseL [] 1 t = .ok L) : parseR t = (L, 0, 0) := by unfold parseR; rw [if_neg h, hp]
def ParseP (s : ByteArray) (w : World) (e : Ending) (w' : World) : Prop :=
  ∃ v, e = .returned (.tuple #[v, .int .i64 (parseR s.data.toList).2.1, .int .i64 (parseR s.data.toList).2.2]) ∧ OwnU w' w.heap.size v (parseR s.data.toList).1 ∧ Below w.heap.size w w'
theorem parseP_err {s : ByteArray} {w w' : World} {n : Nat} {e : Int} (h : parseR s.data.toList = ([], n, e)) (hb : Below w.heap.size w w') {E : Ending} (hE : E = .returned (.tuple #[.slice none 0 0, .int .i64 n, .int .i64 e])) : ParseP s w E w' :=
  ⟨.slice none 0 0, by rw [hE, h], by rw [h]; exact World.ownsRow_nil _ _ _ _, hb⟩
theorem parseP_ok {s : ByteArray} {w w' : World} {L : List UserS} {v : Value} (h : parseR s.data.toList = (L, 0, 0)) (ho : OwnU w' w.heap.size v L) (hb : Below w.heap.size w w') {E : Ending} (hE : E = .returned (.tuple #[v, .int .i64 0, .int .i64 0])) : ParseP s w E w' :=
  ⟨v, by rw [hE, h]; rfl, by rw [h]; exact ho, hb⟩
theorem six_new (W : World) (C : Array Value) (T : TypeId) (f : Nat × Nat) (j : Nat) (x : Value) (h : C.toList[j]? = some x) : (W.alloc (.cells C T f)).cell? ((⟨W.heap.size, 0, none⟩ : Addr).add j) = some x := by
  have hadd : (⟨W.heap.size, 0, none⟩ : Addr).add j = ⟨W.heap.size, j, none⟩ := by unfold Addr.add; split <;> simp_all
  rw [hadd, heap_cell (at_new W _) j]
  simpa using h
theorem OwnU.snoc {w : World} {B : Nat} {v : Value} {L : List UserS} {u : UserS} (h : w.ownsRow B 47 6 v (L.length + 1) (cellsU L ++ (userC u).toList)) : OwnU w B v (L ++ [u]) := by
  unfold OwnU
  rw [cellsU_snoc, List.length_append]
  exact h
/-- One round of Parse. -/
theorem round_bad {t a b : ByteArray} {ok : Bool} {L : List UserS} {n : Nat} (h0 : 0 < t.size)
    (hc : (ok = true ∧ t.data.toList = a.data.toList ++ 10 :: b.data.toList ∧ 10 ∉ a.data.toList) ∨ (ok = false ∧ 10 ∉ t.data.toList ∧ a = t ∧ b = ⟨#[]⟩))
    (h : (∀ v, ¬ IsLine a.data.toList v) ∨ ok = false) : parseL L n t.data.toList = .error (n, 17) := by
  have hne : t.data.toList ≠ [] := fun e => by have := sz t; rw [e] at this; simp at this; omega
  rcases hc with ⟨rfl, h1, h2⟩ | ⟨rfl, h1, rfl, rfl⟩
  · rcases h with h | h
    · exact parseL_bad hne (by rw [h1, lineOf_app h2]; exact h)
    · cases h
  · exact parseL_last hne h1
open Classical in
theorem round_line {t a b : ByteArray} {L : List UserS} {n : Nat} {u : UserS} (hc : t.data.toList = a.data.toList ++ 10 :: b.data.toList) (h : IsLine a.data.toList u) :
    parseL L n t.data.toList = if u.name ∈ namesU L then .error (n, 5) else if L.length = 8 then .error (n, 12) else parseL (L ++ [u]) (n + 1) b.data.toList := by
  rw [hc, ← h.2, parseL_step h.1]
theorem emp_iff (s : ByteArray) : s.toList.isEmpty = decide (s.size = 0) := by
  rw [toList_data]
  cases hh : s.data.toList with
  | nil => have := sz s; rw [hh] at this; simp at this; rw [decide_eq_true this.symm]; rfl
  | cons c l => have := sz s; rw [hh] at this; simp at this; rw [decide_eq_false (by omega)]; rfl
set_option maxHeartbeats 4000000 in
set_option maxRecDepth 100000 in
theorem parse_any (s : ByteArray) (w : World) (hW : HasW w) : Calls Tryz.prog 129 #[.string s] w (ParseP s w) := by
  have HW := Lib.hid hW
  clear hW
  by_cases hlong : 4096 < s.size
  · have hl1 : (4096 : Int) < s.size := by omega
    have HP : Hid (parseR s.data.toList = ([], 0, 10)) := Lib.hid (parse_long (by rw [sz]; exact hlong))
    clear hlong
    go_enter Tryz.func129, Tryz.ntmps129
    go_wp2
    exact bodyPost_ret (v := .tuple #[.slice none 0 0, .int .i64 0, .int .i64 10]) (by simp [results, Tryz.results129, go_sem]) rfl (parseP_err HP.out (Below.refl _ _) rfl)
  · have hl1 : ¬ (4096 : Int) < s.size := by omega
    have HE := Lib.hid (fun n e (h : parseL [] 1 s.data.toList = .error (n, e)) => parse_err (by rw [sz]; exact hlong) h)
    have HK := Lib.hid (fun L (h : parseL [] 1 s.data.toList = .ok L) => parse_ok (by rw [sz]; exact hlong) h)
    have hs : s.size ≤ 4096 := by omega
    obtain ⟨i0, hi, hz0, hz1, hz4⟩ := info_parts info33
    clear hlong
    go_enter Tryz.func129, Tryz.ntmps129
    go_wp2
    go_loopw [0, 5, 6, 7, 8, 9, 10, 11] (fun v0 v5 v6 v7 v8 v9 v10 v11 wr => ∃ (t : ByteArray) (L : List UserS) (n : Nat), v0 = .string t ∧ v6 = .int .i64 n ∧ n + t.size ≤ s.size + 1 ∧ L.length ≤ 8 ∧ Hid (OwnU wr w.heap.size v5 L ∧ Below w.heap.size w wr ∧ parseL L n t.data.toList = parseL [] 1 s.data.toList)) (fun v0 v5 v6 v7 v8 v9 v10 v11 _ => strSz v0)
    case atStart => exact ⟨s, [], 1, rfl, rfl, by omega, by simp, Lib.hid ⟨World.ownsRow_nil _ _ _ _, Below.refl _ _, rfl⟩⟩
    case round =>
      obtain ⟨t, L, n, rfl, rfl, hn, hL, HH⟩ := hrel
      obtain ⟨la, lc, rfl⟩ := HH.out.1.form
      have he := emp_iff t
      by_cases ht : t.size = 0
      · rw [decide_eq_true ht] at he
        have HT : Hid (parseL [] 1 s.data.toList = .ok L) := Lib.hid (by
          rw [← HH.out.2.2]
          have : t.data.toList = [] := List.length_eq_zero_iff.1 (by rw [sz]; exact ht)
          rw [this, parseL_nil])
        clear ht
        go_wp2
        exact bodyPost_ret (v := .tuple #[.slice la L.length lc, .int .i64 0, .int .i64 0]) (by simp [results, Tryz.results129, go_sem]) rfl (parseP_ok (HK.out _ HT.out) HH.out.1 HH.out.2.1 rfl)
      · rw [decide_eq_false ht] at he
        have ht0 : 0 < t.size := by omega
        clear ht
        go_wp2_with fail
        refine (cut_any 10 t _ (by omega)).mono ?_
        rintro e w1 ⟨a, b, ok, rfl, ⟨k, rfl⟩, ha, hb, hc⟩
        have HCUT := Lib.hid hc
        have hB1 := drewN_below (Below.refl wr.heap.size wr) k
        have HB1 := Lib.hid (HH.out.2.1.trans (hB1.mono HH.out.2.1.size))
        have HO1 := Lib.hid (HH.out.1.grown hB1)
        clear hc hB1
        generalize wr.drewN k = W1 at *
        go_wp2_with fail
        refine (read_any a W1 (by omega) (HW.out.below HB1.out)).mono ?_
        rintro e w2 ⟨u, ok2, rfl, hb2, h1, h2⟩
        have HB2 := Lib.hid (HB1.out.trans (hb2.mono HB1.out.size))
        have HO2 := Lib.hid (HO1.out.grown hb2)
        have H1 := Lib.hid h1
        have H2 := Lib.hid h2
        clear hb2 h1 h2 HB1 HO1
        unfold userC
        cases ok2 with
        | false =>
          have HR := Lib.hid (HE.out n 17 (by rw [← HH.out.2.2]; exact round_bad ht0 HCUT.out (.inl (H2.out rfl))))
          go_wp2
          exact bodyPost_ret (v := .tuple #[.slice none 0 0, .int .i64 n, .int .i64 17]) (by simp [results, Tryz.results129, go_sem]) rfl (parseP_err HR.out (HB2.out.alloc HB2.out.size _) rfl)
        | true =>
          cases ok with
          | false =>
            have HR := Lib.hid (HE.out n 17 (by rw [← HH.out.2.2]; exact round_bad ht0 HCUT.out (.inr rfl)))
            go_wp2
            exact bodyPost_ret (v := .tuple #[.slice none 0 0, .int .i64 n, .int .i64 17]) (by simp [results, Tryz.results129, go_sem]) rfl (parseP_err HR.out (HB2.out.alloc HB2.out.size _) rfl)
          | true =>
            have h3 : t.data.toList = a.data.toList ++ 10 :: b.data.toList := by
              rcases HCUT.out with ⟨_, h, _⟩ | ⟨h, _⟩
              · exact h
              · cases h
            have hsz : b.size + 1 ≤ t.size := by
              have := congrArg List.length h3
              rw [List.length_append, List.length_cons, sz, sz, sz] at this
              omega
            have HSTEP := Lib.hid (round_line (L := L) (n := n) h3 (H1.out rfl))
            clear h3 HCUT H1 H2
            go_upto_region 11 with fail
            have hw4 : Below w2.heap.size w2 (w2.alloc (.cells (userC u) 47)) := (Below.refl _ _).alloc (Nat.le_refl _) _
            have hu4 : UC (w2.alloc (.cells (userC u) 47)) w2.heap.size 0 u := box_six (u := 47) (Below.refl _ _)
            have HB4 := Lib.hid (HB2.out.trans (hw4.mono HB2.out.size))
            have HO4 := Lib.hid (HO2.out.grown hw4)
            clear hw4
            have hW : ∃ W4, w2.alloc (.cells (userC u) 47) = W4 := ⟨_, rfl⟩
            obtain ⟨W4, hW4⟩ := hW
            rw [hW4] at hu4 HB4 HO4
            have hW4' : w2.alloc (.cells #[.string u.name, .string u.pass, .int .i64 u.id, .int .i64 u.group, .string u.home, .string u.shell] 47) = W4 := hW4
            rw [hW4']
            have HU4 := Lib.hid hu4
            obtain ⟨c0, c1, c2, c3, c4, c5⟩ := hu4.at0
            clear hu4 hW4 hW4'
            go_wp2_with fail
            refine (at_any _ L u.name W4 (own_inU HO4.out) (by omega)).mono ?_
            rintro e w5 ⟨rfl, hb5⟩
            have HB5 := Lib.hid (HB4.out.trans (hb5.mono HB4.out.size))
            have HO5 := Lib.hid (HO4.out.grown hb5)
            have hu5 := HU4.out.below hb5
            clear hb5 c0 c1 c2 c3 c4 c5 HB4 HO4 HU4
            have HFM := Lib.hid (find_mem u.name L)
            obtain ⟨q, hq⟩ : ∃ q, findU (isName u.name) L 0 = q := ⟨_, rfl⟩
            rw [hq] at HFM ⊢
            clear hq
            by_cases hq0 : 0 ≤ q
            · have HR := Lib.hid (HE.out n 5 (by rw [← HH.out.2.2, HSTEP.out, if_pos (HFM.out.1 hq0)]))
              go_wp2
              exact bodyPost_ret (v := .tuple #[.slice none 0 0, .int .i64 n, .int .i64 5]) (by simp [results, Tryz.results129, go_sem]) rfl (parseP_err HR.out HB5.out rfl)
            · have hnm : u.name ∉ namesU L := fun h => hq0 (HFM.out.2 h)
              by_cases h8 : L.length = 8
              · have HR := Lib.hid (HE.out n 12 (by rw [← HH.out.2.2, HSTEP.out, if_neg hnm, if_pos h8]))
                have h81 : ((L.length : Int) == 8) = true := by rw [h8]; rfl
                clear hnm h8
                go_wp2
                exact bodyPost_ret (v := .tuple #[.slice none 0 0, .int .i64 n, .int .i64 12]) (by simp [results, Tryz.results129, go_sem]) rfl (parseP_err HR.out HB5.out rfl)
              · have HR := Lib.hid (show parseL (L ++ [u]) (n + 1) b.data.toList = parseL [] 1 s.data.toList by rw [← HH.out.2.2, HSTEP.out, if_neg hnm, if_neg h8])
                have h81 : ((L.length : Int) == 8) = false := by
                  cases hh : ((L.length : Int) == 8) with
                  | false => rfl
                  | true => simp at hh; omega
                have hL7 : L.length ≤ 7 := by omega
                clear hnm h8
                obtain ⟨c0, c1, c2, c3, c4, c5⟩ := hu5.at0
                clear hu5
                have HNAT := Lib.hid (show n + t.size ≤ s.size + 1 ∧ b.size + 1 ≤ t.size ∧ L.length ≤ 7 ∧ s.size ≤ 4096 from ⟨hn, hsz, hL7, hs⟩)
                clear hn hsz hL hL7 hs hl1 ht0 ha hb
                go_wp2_with (at_builtin; refine wpList_append_own _ rfl _ _ 44 rfl w.heap.size 47 i0 (.agg (userC zeroU)) 6 80 Tryz.underlying44 hi hz0 hz1 hz4 rfl (by decide) _ _ _ rfl (own_below HO5.out ((Below.refl _ _).alloc (Nat.le_refl _) _)) ⟨_, 0, none⟩ 1 1 [.string u.name, .string u.pass, .int .i64 u.id, .int .i64 u.group, .string u.home, .string u.shell] rfl rfl (six_new _ _ _ _) (by simp [Value.oneCell']) (by unfold maxLen; have := HNAT.out; omega) (by have := HNAT.out; omega) (by have := HB5.out.size; simp; omega) ?_; intro v' w6 hown' hgrow _)
                have HO6 := Lib.hid (OwnU.snoc hown')
                have HB6 := Lib.hid (below_grown (HB5.out.alloc HB5.out.size _) (Nat.le_refl _) hgrow (own_ge HO5.out))
                clear hown' hgrow c0 c1 c2 c3 c4 c5
                go_wp2
                obtain ⟨hn, hsz, hL7, hs⟩ := HNAT.out
                have hwr : wrap64 ((n : Int) + 1) = ((n + 1 : Nat) : Int) := by unfold wrap64; omega
                go_roundw
                case rel => exact ⟨b, L ++ [u], n + 1, rfl, by rw [hwr], by omega, by simp; omega, Lib.hid ⟨HO6.out, HB6.out, HR.out⟩⟩
                case measure => simp [strSz]; omega
end Go.Proofs.Pw
/- users: who there is, read. -/
namespace Go.Proofs.YtlhlehdajkoogaaGreatDoor
open Go.RowKit

abbrev UT : TypeId := 124
def sPasswd : ByteArray := ⟨#[47, 101, 116, 99, 47, 112, 97, 115, 115, 119, 100]⟩
def sNoUsers : ByteArray := ⟨#[110, 111, 32, 117, 115, 101, 114, 115]⟩
/-- A machine that opens the file of users. -/
def OpenS (f : Value) (m : Ma) (w : World) : Prop := ∃ b bt, MustS { op := 2, path := sPasswd, want := 4 } (.func (.func 163) #[] #[.pointer (some ⟨b, 0, none⟩)]) (.func (.func 126) #[] #[.pointer (some ⟨bt, 0, none⟩)]) m w ∧ w.heap[b]? = some (.cells #[.string sNoUsers] 9 (0, 0)) ∧ w.heap[bt]? = some (.cells #[f] UT (0, 0))
theorem OpenS.kr {q : Nat} {f : Value} {m : Ma} {w w' : World} (h : OpenS f m w) (k : Kr q w w') : OpenS f m w' := by
  obtain ⟨b, bt, h1, h2, h3⟩ := h
  exact ⟨b, bt, h1.kr k, k.get h2, k.get h3⟩
/-- A machine that reads the file of users. -/
def UsS (fd : Int) (s : ByteArray) (f : Value) (m : Ma) (w : World) : Prop := ∃ bt, SlurpS fd s (.func (.func 128) #[] #[.pointer (some ⟨bt, 0, none⟩)]) m w ∧ w.heap[bt]? = some (.cells #[f] UT (0, 0))
theorem UsS.kr {q : Nat} {fd : Int} {s : ByteArray} {f : Value} {m : Ma} {w w' : World} (h : UsS fd s f m w) (k : Kr q w w') : UsS fd s f m w' := by
  obtain ⟨bt, h1, h2⟩ := h
  exact ⟨bt, h1.kr k, k.get h2⟩
/-- A machine that closes the file of users. -/
def UcS (fd : Int) (s : ByteArray) (f : Value) (m : Ma) (w : World) : Prop := ∃ bt, ClosS fd s (.func (.func 128) #[] #[.pointer (some ⟨bt, 0, none⟩)]) m w ∧ w.heap[bt]? = some (.cells #[f] UT (0, 0))
theorem UcS.kr {q : Nat} {fd : Int} {s : ByteArray} {f : Value} {m : Ma} {w w' : World} (h : UcS fd s f m w) (k : Kr q w w') : UcS fd s f m w' := by
  obtain ⟨bt, h1, h2⟩ := h
  exact ⟨bt, h1.kr k, k.get h2⟩
set_option maxRecDepth 100000 in
set_option maxHeartbeats 4000000 in
theorem users_any {w : World} {p : Nat} {m : Ma} (h : M w p m) (ho : m.over = false) (fn : Fn) (fi ca : Array Value) :
    Calls Tryz.prog 76 #[.pointer (some ⟨p, 0, none⟩), .func fn fi ca] w (ThP p w (Kst m (OpenS (.func fn fi ca)))) := by
  have hmf : ∀ (fn : Fn) (first cap : Array Value) (w : World), (Instr.makeFunc fn first cap).run Tryz.prog w = .ok (.func fn first cap) w := fun _ _ _ _ => rfl
  obtain ⟨W, hW, h1, hb, hsz⟩ := boxes1 w #[.func fn fi ca] UT
  have HM := Lib.hid (h.below hb)
  have HO := Lib.hid ho
  have HT := Lib.hid h1
  have HMO := Lib.hid (Mo.of (b := p) hb)
  unfold UT at hW
  clear h ho h1 hb hsz
  go_enter Tryz.func76, Tryz.ntmps76
  go_wp2_with fail
  refine (says_any _).mono ?_
  rintro e w1 ⟨rfl, rfl⟩
  obtain ⟨W1, hW1, hx, hb1, _⟩ := boxes1 W #[.string sNoUsers] 9
  unfold sNoUsers at hW1
  rw [hW1]
  have HM1 := Lib.hid (HM.out.below hb1)
  have HX := Lib.hid hx
  have HT1 := Lib.hid ((Kb.below hb1).get HT.out)
  have HMO1 := Lib.hid (HMO.out.below hb1)
  clear hb1 hx HM HT HMO hW1 hW
  go_wp2_with fail
  refine (must_any HM1.out HO.out { op := 2, path := sPasswd, want := 4 } rfl rfl _ _ _ _ _ _).mono ?_
  intro e w2 h
  obtain rfl := h.end
  have H := Lib.hid ((h.more HM1.out (R1 := Kst m (OpenS (.func fn fi ca))) fun m' w' k hh => ⟨hh.1, _, _, hh.2, k.get HX.out, k.get HT1.out⟩).pre HMO1.out)
  clear h
  go_wp2
  exact bodyPost_end (results_none rfl _ _ _) rfl H.out
set_option maxRecDepth 100000 in
set_option maxHeartbeats 4000000 in
theorem users1_any {w : World} {p : Nat} {m : Ma} (h : M w p m) (ho : m.over = false) {f : Value} {bt : Nat} (h2 : w.heap[bt]? = some (.cells #[f] UT (0, 0))) (r : An) :
    Calls Tryz.prog 126 #[.pointer (some ⟨p, 0, none⟩), .agg r.cells, .pointer (some ⟨bt, 0, none⟩)] w (ThP p w (Kst m (UsS r.n ⟨#[]⟩ f))) := by
  have hmf : ∀ (fn : Fn) (first cap : Array Value) (w : World), (Instr.makeFunc fn first cap).run Tryz.prog w = .ok (.func fn first cap) w := fun _ _ _ _ => rfl
  obtain ⟨C, hC⟩ : ∃ C, r.cells = C := ⟨_, rfl⟩
  have hN : C[1]? = some (.int .i64 r.n) := by rw [← hC]; rfl
  rw [hC]
  obtain ⟨W, hW, ha, hb, _⟩ := boxes1 w C 35
  have k := Kb.below hb
  have x1 : W.cell? ⟨w.heap.size, 1, none⟩ = some (.int .i64 r.n) := (cell_of ha 1).trans hN
  have HM := Lib.hid (h.below hb)
  have HO := Lib.hid ho
  have HT := Lib.hid (k.get h2)
  have HMO := Lib.hid (Mo.of (b := p) hb)
  clear h ho h2 hb hC k ha hN
  go_enter Tryz.func126, Tryz.ntmps126
  go_wp2_with fail
  refine (slurp_any HM.out HO.out r.n ⟨#[]⟩ (Nat.zero_le _) _ _ _).mono ?_
  intro e w2 h
  obtain rfl := h.end
  have H := Lib.hid ((h.more HM.out (R1 := Kst m (UsS r.n ⟨#[]⟩ f)) fun m' w' k hh => ⟨hh.1, _, hh.2, k.get HT.out⟩).pre HMO.out)
  clear h
  go_wp2
  exact bodyPost_end (results_none rfl _ _ _) rfl H.out
set_option maxRecDepth 100000 in
set_option maxHeartbeats 4000000 in
/-- Users that are right. -/
theorem users2_any {w : World} {p bt : Nat} (hW : Pw.HasW w) {k : FuncId} {ca : Array Value} (h2 : w.heap[bt]? = some (.cells #[.func (.func k) #[] ca] UT (0, 0))) (s : ByteArray) {L : List Pw.UserS} (hs : ¬ 4096 < s.data.toList.length) (hL : Pw.parseL [] 1 s.data.toList = .ok L) (hen : Enters k)
    {R : Ma → World → Prop} (hk : ∀ w1 v, Below w.heap.size w w1 → Pw.InU w1 v L → Calls Tryz.prog k (#[.pointer (some ⟨p, 0, none⟩), v] ++ ca) w1 (ThP p w1 R)) :
    Calls Tryz.prog 128 #[.pointer (some ⟨p, 0, none⟩), .string s, .pointer (some ⟨bt, 0, none⟩)] w (ThP p w R) := by
  have HP := Lib.hid (Pw.parse_any s w hW)
  have HQ := Lib.hid (Pw.parse_ok hs hL)
  have HK := Lib.hid hk
  have H2 := Lib.hid h2
  clear hW hs hL hk h2
  go_enter Tryz.func128, Tryz.ntmps128
  go_wp2_with fail
  refine HP.out.mono ?_
  rintro e w1 ⟨v, rfl, hown, hb⟩
  rw [HQ.out] at hown ⊢
  have x0 : w1.cell? ⟨bt, 0, none⟩ = some (.func (.func k) #[] ca) := cell_of ((Kb.below hb).get H2.out) 0
  have HC := Lib.hid (HK.out w1 v hb (Pw.own_inU hown))
  have HMO := Lib.hid (Mo.of (b := p) hb)
  clear HP HQ HK H2 hown hb
  go_wp2_with fail
  refine HC.out.mono ?_
  intro e w2 h
  obtain rfl := h.end
  have H := Lib.hid (h.pre HMO.out)
  clear h
  go_wp2
  exact bodyPost_end (results_none rfl _ _ _) rfl H.out
/-- A function value that goes on to R with the users L. -/
def Ut (c : Cx) (L : List Pw.UserS) (R : Ma → World → Prop) (f : Value) (w : World) : Prop :=
  ∃ k ca, f = .func (.func k) #[] ca ∧ Enters k ∧ ∀ w1 m v, Pw.InU w1 v L → Kr c.q w w1 → Gx c w1 m → Calls Tryz.prog k (#[.pointer (some ⟨c.p, 0, none⟩), v] ++ ca) w1 (ThP c.p w1 (Kst m R))
theorem Ut.kr {c : Cx} {L : List Pw.UserS} {R : Ma → World → Prop} {f : Value} {w w' : World} (h : Ut c L R f w) (k : Kr c.q w w') : Ut c L R f w' := by
  obtain ⟨fn, ca, h1, h2, h3⟩ := h
  exact ⟨fn, ca, h1, h2, fun w1 m v hv k1 => h3 w1 m v hv (k.trans k1)⟩
theorem en_users1 : Enters 126 := enter_of Tryz.func126 (by kernel_rfl) rfl
theorem en_users2 : Enters 128 := enter_of Tryz.func128 (by kernel_rfl) rfl
theorem en_slurp2 : Enters 166 := enter_of Tryz.func166 (by kernel_rfl) rfl
theorem en_slurp11 : Enters 165 := enter_of Tryz.func165 (by kernel_rfl) rfl
theorem us1_n {c : Cx} {w : World} {l : Nat} {m : Ma} {f : Value} (hr : Run c l w m) (hs : OpenS f m w) (r : An) (he : r.err = 0) :
    Calls Tryz.prog 14 #[.pointer (some ⟨l, 0, none⟩), .agg r.cells] w (NextP c.p w (Kst m (UsS r.n ⟨#[]⟩ f))) := by
  obtain ⟨b, bt, hm, h1, h2⟩ := hs
  obtain ⟨b1, b2, e1, e2, e3⟩ := hm.th
  refine go_next hr hm.over e1 r (fun m' w1 w2 k hh => hh.kr (k.kr 0)) en_must1 fun w1 k1 g => ?_
  refine musted_any (k1.get e3) r he en_users1 fun w2 hb => ?_
  have k2 := k1.trans (Kb.below hb)
  exact users1_any (g.mach.below hb) hm.over (k2.get h2) r
theorem us2_more {c : Cx} {w : World} {l : Nat} {m : Ma} {fd : Int} {s : ByteArray} {f : Value} (hr : Run c l w m) (hs : UsS fd s f m w) (r : An) (he : r.err = 0) (ht : r.text.toList.isEmpty = false) (hz : (s ++ r.text).size ≤ 4096) :
    Calls Tryz.prog 14 #[.pointer (some ⟨l, 0, none⟩), .agg r.cells] w (NextP c.p w (Kst m (UsS fd (s ++ r.text) f))) := by
  obtain ⟨bt, hm, h1⟩ := hs
  obtain ⟨bd, bf, bs, b4, e1, e2, e3⟩ := hm.th
  refine go_next hr hm.over e1 r (fun m' w1 w2 k hh => hh.kr (k.kr 0)) en_slurp2 fun w1 k1 g => ?_
  exact (slurped_more g.mach hm.over (e3.kb k1) r he ht hz).mono fun e w2 h => h.more g.mach fun m' w' k hh => ⟨hh.1, bt, hh.2, k.get (k1.get h1)⟩
theorem us2_end {c : Cx} {w : World} {l : Nat} {m : Ma} {fd : Int} {s : ByteArray} {f : Value} (hr : Run c l w m) (hs : UsS fd s f m w) (r : An) (he : r.err ≠ 0 ∨ r.err = 0 ∧ r.text.toList.isEmpty = true) :
    Calls Tryz.prog 14 #[.pointer (some ⟨l, 0, none⟩), .agg r.cells] w (NextP c.p w (Kst m (UcS fd s f))) := by
  obtain ⟨bt, hm, h1⟩ := hs
  obtain ⟨bd, bf, bs, b4, e1, e2, e3⟩ := hm.th
  refine go_next hr hm.over e1 r (fun m' w1 w2 k hh => hh.kr (k.kr 0)) en_slurp2 fun w1 k1 g => ?_
  exact (slurped_end g.mach hm.over (k1.get e2) (e3.kb k1) r he).mono fun e w2 h => h.more g.mach fun m' w' k hh => ⟨hh.1, bt, hh.2, k.get (k1.get h1)⟩
theorem us3_n {c : Cx} {w : World} {l : Nat} {m : Ma} {fd : Int} {s : ByteArray} {f : Value} (hr : Run c l w m) (hW : Pw.HasW c.w0) (hs : UcS fd s f m w) {L : List Pw.UserS} (hz : ¬ 4096 < s.data.toList.length) (hL : Pw.parseL [] 1 s.data.toList = .ok L) {R : Ma → World → Prop} (hR : ∀ m' w1 w2, Kb w1 w2 → R m' w1 → R m' w2) (hf : Ut c L R f w) (r : An) :
    Calls Tryz.prog 14 #[.pointer (some ⟨l, 0, none⟩), .agg r.cells] w (NextP c.p w (Kst m R)) := by
  obtain ⟨bt, hm, h1⟩ := hs
  obtain ⟨bf, bs, b4, e1, e3⟩ := hm.th
  obtain ⟨k, ca, rfl, he1, hk⟩ := hf
  refine go_next hr hm.over e1 r hR en_slurp11 fun w1 k1 g => ?_
  refine closed_any (e3.kb k1) r en_users2 fun w2 hb => ?_
  have k2 := k1.trans (Kb.below hb)
  have g2 := g.below hb
  refine users2_any (hW.below g2.bel) (k2.get h1) s hz hL he1 fun w3 v hb3 hv => ?_
  exact hk w3 _ v hv ((k2.trans (Kb.below hb3)).kr _) (g2.below hb3)
end Go.Proofs.YtlhlehdajkoogaaGreatDoor
/- su. -/
namespace Go.Proofs.YtlhlehdajkoogaaGreatDoor
open Go.RowKit

/-- A machine that asks who it is. -/
def IdsS (name : ByteArray) (m : Ma) (w : World) : Prop := m.over = false ∧ m.c = { op := 22 } ∧ ∃ bn, m.th = .func (.func 87) #[] #[.pointer (some ⟨bn, 0, none⟩)] ∧ w.heap[bn]? = some (.cells #[.string name] 9 (0, 0))
theorem IdsS.kr {q : Nat} {name : ByteArray} {m : Ma} {w w' : World} (h : IdsS name m w) (k : Kr q w w') : IdsS name m w' := by
  obtain ⟨h0, h1, bn, h2, h3⟩ := h
  exact ⟨h0, h1, bn, h2, k.get h3⟩
theorem en_su : Enters 47 := enter_of Tryz.func47 (by kernel_rfl) rfl
theorem en_su1 : Enters 87 := enter_of Tryz.func87 (by kernel_rfl) rfl
theorem en_su2 : Enters 88 := enter_of Tryz.func88 (by kernel_rfl) rfl
theorem en_su3 : Enters 90 := enter_of Tryz.func90 (by kernel_rfl) rfl
set_option maxRecDepth 100000 in
set_option maxHeartbeats 4000000 in
theorem su_any {w : World} {p : Nat} {m : Ma} (h : M w p m) (ho : m.over = false) {v : Value} {name : ByteArray} (hw : Words w v name) :
    Calls Tryz.prog 47 #[.pointer (some ⟨p, 0, none⟩), v] w (ThP p w (Kst m (IdsS name))) := by
  have hmf : ∀ (fn : Fn) (first cap : Array Value) (w : World), (Instr.makeFunc fn first cap).run Tryz.prog w = .ok (.func fn first cap) w := fun _ _ _ _ => rfl
  obtain ⟨b, cap, cur, rfl, hb1, hb2, _⟩ := hw
  obtain ⟨V, hV, hc0, hbb, hsz⟩ := boxes1 w #[.string ⟨#[]⟩] 9
  have v1 : V.cell? ⟨w.heap.size, 0, none⟩ = some (.string ⟨#[]⟩) := cell_of hc0 0
  have u1 := frozen_of hc0 0
  have hbe := lt_of_heap hb1
  obtain ⟨V1, hV1⟩ : ∃ V1, V.setCell ⟨w.heap.size, 0, none⟩ (.string ⟨#[114, 111, 111, 116]⟩) = V1 := ⟨_, rfl⟩
  have hc1 : V1.heap[w.heap.size]? = some (.cells #[.string ⟨#[114, 111, 111, 116]⟩] 9 (0, 0)) := by rw [← hV1]; exact heap_setCell_same hc0 _
  have hbV1 : Below w.heap.size w V1 := by rw [← hV1]; exact hbb.setCell (Nat.le_refl _) _
  have y1 : V1.cell? ⟨w.heap.size, 0, none⟩ = some (.string ⟨#[114, 111, 111, 116]⟩) := cell_of hc1 0
  have z1 := frozen_of hc1 0
  have x0 : V1.cell? ⟨b, 0, none⟩ = some (.string name) := (cell_of ((hbV1.block b hbe).trans hb1) 0).trans hb2
  obtain ⟨W, hW⟩ : ∃ W, V1.setCell ⟨w.heap.size, 0, none⟩ (.string name) = W := ⟨_, rfl⟩
  have hc2 : W.heap[w.heap.size]? = some (.cells #[.string name] 9 (0, 0)) := by rw [← hW]; exact heap_setCell_same hc1 _
  have hbW : Below w.heap.size w W := by rw [← hW]; exact hbV1.setCell (Nat.le_refl _) _
  have HM := Lib.hid (h.below hbW)
  have HO := Lib.hid ho
  have HN := Lib.hid hc2
  have HMO := Lib.hid (Mo.of (b := p) hbW)
  clear h ho hb1 hb2 hc0 hbb hsz hbe hc1 hbV1 hc2 hbW
  go_enter Tryz.func47, Tryz.ntmps47
  go_wp2_with fail
  refine (sys_any HM.out { op := 22 } _ _ _ rfl rfl).mono ?_
  rintro e w4 ⟨rfl, h1, h2⟩
  have hk := Kb.mo HM.out h2
  have H := Lib.hid (ThP.sys h1 HO.out rfl rfl (HMO.out.trans h2) (R := Kst m (IdsS name)) ⟨rfl, HO.out, rfl, _, rfl, hk.get HN.out⟩)
  clear h1 h2 hk
  go_wp2
  exact bodyPost_end (results_none rfl _ _ _) rfl H.out
/-- What su's closure for users holds: a name and an answer. -/
def SuB (q : Nat) (name : ByteArray) (r : An) (f : Value) (w : World) : Prop := ∃ bn br, f = .func (.func 88) #[] #[.pointer (some ⟨bn, 0, none⟩), .pointer (some ⟨br, 0, none⟩)] ∧ w.heap[bn]? = some (.cells #[.string name] 9 (0, 0)) ∧ w.heap[br]? = some (.cells r.cells 35 (0, 0)) ∧ br ≠ q
theorem SuB.kr {q : Nat} {name : ByteArray} {r : An} {f : Value} {w w' : World} (h : SuB q name r f w) (k : Kr q w w') : SuB q name r f w' := by
  obtain ⟨bn, br, h0, h1, h2, h3⟩ := h
  exact ⟨bn, br, h0, k.get h1, k _ _ _ (by decide) (by decide) (fun _ => h3) h2, h3⟩
set_option maxRecDepth 100000 in
set_option maxHeartbeats 4000000 in
theorem su1_any {w : World} {p q bn : Nat} {m : Ma} (h : M w p m) (ho : m.over = false) {name : ByteArray} (h1 : w.heap[bn]? = some (.cells #[.string name] 9 (0, 0))) (hq : q < w.heap.size) (r : An) :
    Calls Tryz.prog 87 #[.pointer (some ⟨p, 0, none⟩), .agg r.cells, .pointer (some ⟨bn, 0, none⟩)] w (ThP p w (Kst m fun m' w' => ∃ f, OpenS f m' w' ∧ SuB q name r f w')) := by
  have hmf : ∀ (fn : Fn) (first cap : Array Value) (w : World), (Instr.makeFunc fn first cap).run Tryz.prog w = .ok (.func fn first cap) w := fun _ _ _ _ => rfl
  obtain ⟨W, hW, ha, hb, _⟩ := boxes1 w r.cells 35
  have HB : Hid (SuB q name r (.func (.func 88) #[] #[.pointer (some ⟨bn, 0, none⟩), .pointer (some ⟨w.heap.size, 0, none⟩)]) W) := Lib.hid ⟨_, _, rfl, (Kb.below hb).get h1, ha, by omega⟩
  have HM := Lib.hid (h.below hb)
  have HO := Lib.hid ho
  have HMO := Lib.hid (Mo.of (b := p) hb)
  obtain ⟨C, hC⟩ : ∃ C, r.cells = C := ⟨_, rfl⟩
  rw [hC] at hW ⊢
  clear h ho h1 hb hC ha hq
  go_enter Tryz.func87, Tryz.ntmps87
  go_wp2_with fail
  refine (users_any HM.out HO.out _ _ _).mono ?_
  intro e w2 h
  obtain rfl := h.end
  have H := Lib.hid ((h.more HM.out (R1 := Kst m fun m' w' => ∃ f, OpenS f m' w' ∧ SuB q name r f w') fun m' w' k hh => ⟨hh.1, _, hh.2, HB.out.kr (k.kr q)⟩).pre HMO.out)
  clear h
  go_wp2
  exact bodyPost_end (results_none rfl _ _ _) rfl H.out
theorem stored_user {w : World} {C : Array Value} (h : C.size = 6) : ∃ W, World.setCells (w.alloc (.cells #[.string ⟨#[]⟩, .string ⟨#[]⟩, .int .i64 0, .int .i64 0, .string ⟨#[]⟩, .string ⟨#[]⟩] 47)) w.heap.size 0 C.toList = W ∧ W.heap[w.heap.size]? = some (.cells C 47 (0, 0)) ∧ Below w.heap.size w W ∧ (w.alloc (.cells #[.string ⟨#[]⟩, .string ⟨#[]⟩, .int .i64 0, .int .i64 0, .string ⟨#[]⟩, .string ⟨#[]⟩] 47)).there w.heap.size 0 C.size := by
  have hA := alloc_heap w (.cells (Pw.userC Pw.zeroU) 47)
  have hwr := heap_setCells C.toList 0 _ _ hA
  rw [putA_whole (show C.size = (Pw.userC Pw.zeroU).size from h)] at hwr
  have hb := belowA (Below.refl w.heap.size w) (.cells (Pw.userC Pw.zeroU) 47)
  refine ⟨_, rfl, hwr, ⟨(setCells_os _ _ _).1.trans hb.os, (setCells_os _ _ _).2.1.trans hb.tape, (setCells_os _ _ _).2.2.trans hb.output, by rw [setCells_size]; exact hb.size, fun k hk => (heap_setCells_other (by omega) _ _ _).trans (hb.block k hk)⟩, ?_⟩
  rw [h]
  exact there_of hA
theorem user_one (u : Pw.UserS) : (Pw.userC u).all (·.oneCell') = true := by simp [Pw.userC, Value.oneCell']
theorem user_info (u : Pw.UserS) : (Tryz.prog.info? 47).map (·.size) = some (Pw.userC u).size := by kernel_rfl
set_option maxRecDepth 100000 in
set_option maxHeartbeats 4000000 in
theorem su3_any {w : World} {p bu : Nat} {m : Ma} (h : M w p m) (ho : m.over = false) {u : Pw.UserS} (h1 : w.heap[bu]? = some (.cells (Pw.userC u) 47 (0, 0))) :
    Calls Tryz.prog 90 #[.pointer (some ⟨p, 0, none⟩), .pointer (some ⟨bu, 0, none⟩)] w (ThP p w (Kst m fun m' w' => ∃ f, BecS u f m' w')) := by
  have hmf : ∀ (fn : Fn) (first cap : Array Value) (w : World), (Instr.makeFunc fn first cap).run Tryz.prog w = .ok (.func fn first cap) w := fun _ _ _ _ => rfl
  have HI := Lib.hid (user_info u)
  have HH := Lib.hid h1
  have HB := Lib.hid (becomes_any h ho u (.func 91) #[] #[.pointer (some ⟨bu, 0, none⟩)])
  obtain ⟨C, hC⟩ : ∃ C, Pw.userC u = C := ⟨_, rfl⟩
  rw [hC] at HI HH HB
  clear h ho h1 hC
  go_enter Tryz.func90, Tryz.ntmps90
  go_wp2_with (refine wpList_load_row rfl 47 _ rfl bu rfl 47 C (0, 0) _ HH.out Tryz.underlying47 rfl HI.out ?_)
  refine HB.out.mono ?_
  intro e w2 h
  obtain rfl := h.end
  have H := Lib.hid (h.mono (R2 := Kst m fun m' w' => ∃ f, BecS u f m' w') fun m' w' hh => ⟨hh.1, _, hh.2⟩)
  clear h
  go_wp2
  exact bodyPost_end (results_none rfl _ _ _) rfl H.out
theorem kt_su3 {c : Cx} {w : World} {bu : Nat} {u : Pw.UserS} (h1 : w.heap[bu]? = some (.cells (Pw.userC u) 47 (0, 0))) : Kt c (fun m' w' => ∃ f, BecS u f m' w') (.func (.func 90) #[] #[.pointer (some ⟨bu, 0, none⟩)]) w :=
  ⟨_, _, rfl, en_su3, fun _ _ k g => su3_any g.mach g.over (k.get h1)⟩
/-- su behind the users. -/
def SuQ (c : Cx) (name : ByteArray) (real : Int) (u : Pw.UserS) (m : Ma) (w : World) : Prop := (real = 0 ∧ ∃ f, BecS u f m w) ∨ (real ≠ 0 ∧ ∃ g f, AskS sPw g m w ∧ PrvB name u true f g w ∧ Kt c (fun m' w' => ∃ f, BecS u f m' w') f w)
theorem SuQ.kr {c : Cx} {name : ByteArray} {real : Int} {u : Pw.UserS} {m : Ma} {w w' : World} (h : SuQ c name real u m w) (k : Kr c.q w w') : SuQ c name real u m w' := by
  rcases h with ⟨h1, f, h2⟩ | ⟨h1, g, f, h2, h3, h4⟩
  · exact .inl ⟨h1, f, h2.kr k⟩
  · exact .inr ⟨h1, g, f, h2.kr k, h3.kr k, h4.kr k⟩
set_option maxRecDepth 100000 in
set_option maxHeartbeats 4000000 in
theorem su2_any {c : Cx} {w : World} {bn br : Nat} {m : Ma} (g : Gx c w m) {name : ByteArray} (h1 : w.heap[bn]? = some (.cells #[.string name] 9 (0, 0))) {r : An} (h2 : w.heap[br]? = some (.cells r.cells 35 (0, 0))) {v : Value} {L : List Pw.UserS} (hv : Pw.InU w v L) (hL : L.length ≤ 8) {u : Pw.UserS} (hu : ∃ k : Nat, ∃ h : k < L.length, Pw.isName name L[k] = true ∧ L[k] = u ∧ ∀ j (hj : j < L.length), Pw.isName name L[j] = true → j = k) (hp : u.pass.toList.isEmpty = false) :
    Calls Tryz.prog 88 #[.pointer (some ⟨c.p, 0, none⟩), v, .pointer (some ⟨bn, 0, none⟩), .pointer (some ⟨br, 0, none⟩)] w (ThP c.p w (Kst m (SuQ c name r.real u))) := by
  have hmf : ∀ (fn : Fn) (first cap : Array Value) (w : World), (Instr.makeFunc fn first cap).run Tryz.prog w = .ok (.func fn first cap) w := fun _ _ _ _ => rfl
  have x0 : w.cell? ⟨bn, 0, none⟩ = some (.string name) := cell_of h1 0
  have HF := Lib.hid (Pw.find_any v L name w hv (by omega))
  have H1 := Lib.hid h1
  have H2 := Lib.hid h2
  have HG := Lib.hid g
  have HU := Lib.hid hu
  have HP := Lib.hid hp
  clear g h1 h2 hv hL hu hp
  go_enter Tryz.func88, Tryz.ntmps88
  go_wp2_with fail
  refine HF.out.mono ?_
  rintro e w1 ⟨hb, hf⟩
  obtain ⟨k, hk, e1, e2, e3⟩ := HU.out
  obtain rfl : e = .returned (.tuple #[.agg (Pw.userC u), .bool true]) := by
    rcases hf with ⟨j, hj, e4, _, e5⟩ | ⟨e4, _⟩
    · obtain rfl := e3 j hj e4
      rw [e5, e2]
    · rw [e4 _ (List.getElem_mem hk)] at e1; cases e1
  obtain ⟨W, hW, hbk, hbW, hT⟩ := stored_user (w := w1) (C := Pw.userC u) rfl
  have HT := Lib.hid hT
  have HI := Lib.hid (user_info u)
  have HO1 := Lib.hid (user_one u)
  have hbb := hb.trans (hbW.mono hb.size)
  have k2 := Kb.below hbb
  have HU2 := Lib.hid hbk
  have HGW := Lib.hid (HG.out.below hbb)
  have H1W := Lib.hid (k2.get H1.out)
  have y0 : W.cell? ⟨bn, 0, none⟩ = some (.string name) := cell_of H1W.out 0
  have y7 : W.cell? ⟨br, 14, none⟩ = some (.int .i64 r.real) := cell_of (k2.get H2.out) 14
  have HMO := Lib.hid (Mo.of (b := c.p) hbb)
  have HKT := Lib.hid (kt_su3 (c := c) hbk)
  clear hb hf e1 e2 e3 hk hbk hbW hT hbb k2 HF HU HG H1 H2 x0
  obtain ⟨C, hC⟩ : ∃ C, Pw.userC u = C := ⟨_, rfl⟩
  rw [hC] at hW HT HI HO1 HU2 ⊢
  have HC := Lib.hid hC
  clear hC
  by_cases hr : r.real = 0
  · rw [hr] at y7
    have HR := Lib.hid hr
    clear hr
    go_wp2_with (refine wpList_store_mid rfl 47 _ _ rfl w1.heap.size 0 C rfl rfl HT.out HI.out HO1.out ?_; rw [hW]; clear hW)
    refine (su3_any HGW.out.mach HGW.out.over (u := u) (by rw [HC.out]; exact HU2.out)).mono ?_
    intro e w2 h
    obtain rfl := h.end
    have H := Lib.hid ((h.mono (R2 := Kst m (SuQ c name r.real u)) fun m' w' hh => ⟨hh.1, .inl ⟨HR.out, hh.2⟩⟩).pre HMO.out)
    clear h
    go_wp2
    exact bodyPost_end (results_none rfl _ _ _) rfl H.out
  · have hrb : (r.real == 0) = false := by simpa using hr
    have HR := Lib.hid hr
    clear hr
    go_wp2_with (first | (refine wpList_store_mid rfl 47 _ _ rfl w1.heap.size 0 C rfl rfl HT.out HI.out HO1.out ?_; rw [hW]; clear hW) | (refine wpList_load_row rfl 47 _ rfl w1.heap.size rfl 47 C (0, 0) _ HU2.out Tryz.underlying47 rfl HI.out ?_))
    rw [← HC.out]
    refine (proves_ask HGW.out.mach HGW.out.over name u true (fun _ => HP.out) _ _ _).mono ?_
    intro e w2 h
    obtain rfl := h.end
    have H := Lib.hid ((h.more HGW.out.mach (R1 := Kst m (SuQ c name r.real u)) fun m' w' k hh => ⟨hh.1, .inr ⟨HR.out, hh.2.elim fun g hg => ⟨g, _, hg.1, hg.2, HKT.out.kr (k.kr _)⟩⟩⟩).pre HMO.out)
    clear h
    go_wp2
    exact bodyPost_end (results_none rfl _ _ _) rfl H.out
end Go.Proofs.YtlhlehdajkoogaaGreatDoor
/- The statements' small case. -/
namespace Go.Proofs.YtlhlehdajkoogaaGreatDoor
open Go.RowKit

theorem Nw.below {w0 w w' : World} {prog s : ByteArray} {d : FuncId} {e : Ending} {l p pd pw : Nat} {v wv : Value} (h : Nw w0 w prog d s e l p pd pw v wv) (hb : Below w.heap.size w w') : Nw w0 w' prog d s e l p pd pw v wv := by
  have k := Kb.below hb
  exact ⟨h.ret, h.l.kb k, h.m.below hb, h.one.kb k, k _ _ _ (by decide) (by decide) h.pd, k _ _ _ (by decide) (by decide) h.pw, h.words.kb k, h.ge, h.bel.trans (hb.mono h.bel.size)⟩
/-- A program under way: it lies, and its call lies in a block of its own. -/
structure GW (w0 w : World) (l p : Nat) (m : Ma) (R : Ma → World → Prop) : Prop where
  lies : L w l p
  mach : M w p m
  st : R m w
  ge : w0.heap.size ≤ p
  bel : Below w0.heap.size w0 w
/-- The block that holds a call. -/
def Cal (w : World) (b : Nat) (C : Array Value) (p : Nat) : Prop := w.heap[b]? = some (.cells C 39 (0, 0)) ∧ p < b
theorem GW.next {w0 w w1 : World} {l p : Nat} {m : Ma} {R R1 : Ma → World → Prop} {e : Ending} (h : GW w0 w l p m R) (hn : NextP p w R1 e w1) : ∃ m1, e = .returned (.agg m1.c.cells) ∧ GW w0 w1 l p m1 R1 ∧ m1.told ∧ (∀ b C, Cal w b C p → Cal w1 b C p) := by
  obtain ⟨m1, he, h1, h2, h3, h4⟩ := hn
  exact ⟨m1, he, ⟨h.lies.kb (Kb.mo h.mach h3), h1, h4, h.ge, Mo.bel h.bel h3 h.ge (Nat.le_refl _)⟩, h2, fun b C hb => ⟨(h3.block b (lt_of_heap hb.1) (by have := hb.2; omega)).trans hb.1, hb.2⟩⟩
theorem GW.below {w0 w w1 : World} {l p : Nat} {m : Ma} {R : Ma → World → Prop} (h : GW w0 w l p m R) (hR : ∀ m' w1 w2, Kb w1 w2 → R m' w1 → R m' w2) (hb : Below w.heap.size w w1) : GW w0 w1 l p m R :=
  ⟨h.lies.kb (Kb.below hb), h.mach.below hb, hR _ _ _ (Kb.below hb) h.st, h.ge, h.bel.trans (hb.mono h.bel.size)⟩
theorem Cal.below {w w1 : World} {b p : Nat} {C : Array Value} (h : Cal w b C p) (hb : Below w.heap.size w w1) : Cal w1 b C p := ⟨(hb.block b (lt_of_heap h.1)).trans h.1, h.2⟩
theorem Nw.gw {w0 w : World} {prog s : ByteArray} {d : FuncId} {e : Ending} {l p pd pw : Nat} {v wv : Value} (h : Nw w0 w prog d s e l p pd pw v wv) : GW w0 w l p { prog := prog, todo := v, th := .nilFunc, c := { op := 0 } } (fun _ _ => True) := ⟨h.l, h.m, trivial, h.ge, h.bel⟩
def sGetty : ByteArray := ⟨#[103, 101, 116, 116, 121]⟩
def sTwo : ByteArray := ⟨#[50]⟩
def sAnn : ByteArray := ⟨#[97, 110, 110]⟩
def sAnnL : ByteArray := ⟨#[97, 110, 110, 10]⟩
set_option maxRecDepth 100000 in
set_option maxHeartbeats 8000000 in
theorem shown_any {w : World} : Calls Tryz.prog 10 #[] w fun e w' => e = .returned (.bool true) ∧ Below w.heap.size w w' := by
  have ha := alloc_heap w (.cells #[.string ⟨#[103, 101, 116, 116, 121]⟩, .string ⟨#[50]⟩] 9)
  have HB0 := Lib.hid (belowA (Below.refl w.heap.size w) (.cells #[.string ⟨#[103, 101, 116, 116, 121]⟩, .string ⟨#[50]⟩] 9))
  have HA := Lib.hid (lnew_any ⟨#[103, 101, 116, 116, 121]⟩ 45 (fun W => prog_getty W) ha)
  clear ha
  go_enter Tryz.func10, Tryz.ntmps10
  go_wp2_with fail
  refine HA.out.mono ?_
  rintro e w2 ⟨l, p, pd, pw, v, wv, hN⟩
  obtain rfl := hN.ret
  have HN := Lib.hid hN
  clear hN HA
  go_wp2_with fail
  refine ldog_any.mono ?_
  rintro e w3 ⟨rfl, hb⟩
  have HN3 := Lib.hid (HN.out.below hb)
  clear HN hb
  go_wp2_with fail
  have HG := Lib.hid HN3.out.gw
  refine (g1_any HN3.out rfl 2 (by omega) rfl {}).mono ?_
  intro e v4 h
  obtain ⟨m4, rfl, hg, htd, hcal⟩ := HG.out.next h
  obtain ⟨C4, hC⟩ : ∃ C, m4.c.cells = C := ⟨_, rfl⟩
  have hsz : C4.size = 20 := by rw [← hC]; rfl
  have hone : C4.all (·.oneCell') = true := by rw [← hC]; exact Ca.one _ htd.1.1 htd.1.2
  have F40 : Hid (C4[0]? = some (.int .i64 25)) := Lib.hid (by rw [← hC, hg.st.c]; rfl)
  have F46 : Hid (C4[6]? = some (.int .i64 2)) := Lib.hid (by rw [← hC, hg.st.c]; rfl)
  rw [hC]
  obtain ⟨W4, hW, hbk, hbel, hs, hT⟩ := stored_call (w := v4) (C := C4) hsz
  have K4 : Hid (Cal W4 v4.heap.size C4 p) := Lib.hid ⟨hbk, hg.mach.lt⟩
  have HG := Lib.hid (hg.below (fun m' w1 w2 k hh => hh.kb) hbel)
  have HI : Hid ((Tryz.prog.info? 39).map (·.size) = some C4.size) := Lib.hid (by rw [hsz]; rfl)
  have HO := Lib.hid hone
  have HT := Lib.hid hT
  clear h hg htd hcal hC hsz hone hbk hbel hs hT
  go_wp2_with (refine wpList_store_mid rfl 39 _ _ rfl v4.heap.size 0 C4 rfl rfl HT.out HI.out HO.out ?_; rw [hW]; clear hW)
  refine (g2_any HG.out.lies HG.out.mach HG.out.st {} rfl).mono ?_
  intro e v5 h
  obtain ⟨m5, rfl, hg, htd, hcal⟩ := HG.out.next h
  obtain ⟨C5, hC⟩ : ∃ C, m5.c.cells = C := ⟨_, rfl⟩
  have hsz : C5.size = 20 := by rw [← hC]; rfl
  have hone : C5.all (·.oneCell') = true := by rw [← hC]; exact Ca.one _ htd.1.1 htd.1.2
  have F50 : Hid (C5[0]? = some (.int .i64 5)) := Lib.hid (by rw [← hC, hg.st.c]; rfl)
  have F53 : Hid (C5[3]? = some (.string hello)) := Lib.hid (by rw [← hC, hg.st.c]; rfl)
  rw [hC]
  obtain ⟨W5, hW, hbk, hbel, hs, hT⟩ := stored_call (w := v5) (C := C5) hsz
  have K4 := Lib.hid ((hcal _ _ K4.out).below hbel)
  have K5 : Hid (Cal W5 v5.heap.size C5 p) := Lib.hid ⟨hbk, hg.mach.lt⟩
  have HG := Lib.hid (hg.below (fun m' w1 w2 k hh => hh.kb k) hbel)
  have HI : Hid ((Tryz.prog.info? 39).map (·.size) = some C5.size) := Lib.hid (by rw [hsz]; rfl)
  have HO := Lib.hid hone
  have HT := Lib.hid hT
  clear h hg htd hcal hC hsz hone hbk hbel hs hT
  go_wp2_with (refine wpList_store_mid rfl 39 _ _ rfl v5.heap.size 0 C5 rfl rfl HT.out HI.out HO.out ?_; rw [hW]; clear hW)
  refine (g3_any HG.out.lies HG.out.mach HG.out.st { n := 7 } rfl (show (1 : Int) ≤ 7 by omega) (show ((7 : Nat) : Int) ≤ 7 by omega)).mono ?_
  intro e v6 h
  obtain ⟨m6, rfl, hg, htd, hcal⟩ := HG.out.next h
  obtain ⟨C6, hC⟩ : ∃ C, m6.c.cells = C := ⟨_, rfl⟩
  have hsz : C6.size = 20 := by rw [← hC]; rfl
  have hone : C6.all (·.oneCell') = true := by rw [← hC]; exact Ca.one _ htd.1.1 htd.1.2
  have F60 : Hid (C6[0]? = some (.int .i64 4)) := Lib.hid (by rw [← hC, hg.st.c]; rfl)
  rw [hC]
  obtain ⟨W6, hW, hbk, hbel, hs, hT⟩ := stored_call (w := v6) (C := C6) hsz
  have K4 := Lib.hid ((hcal _ _ K4.out).below hbel)
  have K5 := Lib.hid ((hcal _ _ K5.out).below hbel)
  have K6 : Hid (Cal W6 v6.heap.size C6 p) := Lib.hid ⟨hbk, hg.mach.lt⟩
  have HG := Lib.hid (hg.below (fun m' w1 w2 k hh => hh.kb) hbel)
  have HI : Hid ((Tryz.prog.info? 39).map (·.size) = some C6.size) := Lib.hid (by rw [hsz]; rfl)
  have HO := Lib.hid hone
  have HT := Lib.hid hT
  clear h hg htd hcal hC hsz hone hbk hbel hs hT
  go_wp2_with (refine wpList_store_mid rfl 39 _ _ rfl v6.heap.size 0 C6 rfl rfl HT.out HI.out HO.out ?_; rw [hW]; clear hW)
  refine (g4_any HG.out.lies HG.out.mach HG.out.st { text := sAnnL } rfl (show 4 ≤ 9223372036854775807 by omega) (by rw [ByteArray.toList_eq]; rfl) sAnn rfl (by rw [ByteArray.toList_eq]; rfl)).mono ?_
  intro e v7 h
  obtain ⟨m7, rfl, hg, htd, hcal⟩ := HG.out.next h
  obtain ⟨C7, hC⟩ : ∃ C, m7.c.cells = C := ⟨_, rfl⟩
  have hsz : C7.size = 20 := by rw [← hC]; rfl
  have hone : C7.all (·.oneCell') = true := by rw [← hC]; exact Ca.one _ htd.1.1 htd.1.2
  obtain ⟨bx, hx1, hx2⟩ := hg.st
  have F70 : Hid (C7[0]? = some (.int .i64 19)) := Lib.hid (by rw [← hC, hx1]; rfl)
  have F7a : Hid (C7[18]? = some (.slice (some ⟨bx, 0, none⟩) 2 2)) := Lib.hid (by rw [← hC, hx1]; rfl)
  rw [hC]
  obtain ⟨W7, hW, hbk, hbel, hs, hT⟩ := stored_call (w := v7) (C := C7) hsz
  have K4 := Lib.hid ((hcal _ _ K4.out).below hbel)
  have K5 := Lib.hid ((hcal _ _ K5.out).below hbel)
  have K6 := Lib.hid ((hcal _ _ K6.out).below hbel)
  have K7 : Hid (Cal W7 v7.heap.size C7 p) := Lib.hid ⟨hbk, hg.mach.lt⟩
  have HG := Lib.hid (hg.below (fun m' w1 w2 k hh => hh.kb k) hbel)
  have HI : Hid ((Tryz.prog.info? 39).map (·.size) = some C7.size) := Lib.hid (by rw [hsz]; rfl)
  have HO := Lib.hid hone
  have HT := Lib.hid hT
  have HX := Lib.hid ((hbel.block bx (lt_of_heap hx2)).trans hx2)
  clear h hg htd hcal hC hsz hone hbk hbel hs hT hx1 hx2
  have y40 : W7.cell? ⟨v4.heap.size, 0, none⟩ = some (.int .i64 25) := (cell_of K4.out.1 0).trans F40.out
  have y46 : W7.cell? ⟨v4.heap.size, 6, none⟩ = some (.int .i64 2) := (cell_of K4.out.1 6).trans F46.out
  have y50 : W7.cell? ⟨v5.heap.size, 0, none⟩ = some (.int .i64 5) := (cell_of K5.out.1 0).trans F50.out
  have y53 : W7.cell? ⟨v5.heap.size, 3, none⟩ = some (.string hello) := (cell_of K5.out.1 3).trans F53.out
  have y60 : W7.cell? ⟨v6.heap.size, 0, none⟩ = some (.int .i64 4) := (cell_of K6.out.1 0).trans F60.out
  have y70 : W7.cell? ⟨v7.heap.size, 0, none⟩ = some (.int .i64 19) := (cell_of K7.out.1 0).trans F70.out
  have y7a : W7.cell? ⟨v7.heap.size, 18, none⟩ = some (.slice (some ⟨bx, 0, none⟩) 2 2) := (cell_of K7.out.1 18).trans F7a.out
  have yx : W7.cell? ⟨bx, 1, none⟩ = some (.string sAnn) := cell_of HX.out 1
  have HB := Lib.hid (HB0.out.trans (HG.out.bel.mono HB0.out.size))
  unfold hello at y53
  unfold sAnn at yx
  go_wp2_with (refine wpList_store_mid rfl 39 _ _ rfl v7.heap.size 0 C7 rfl rfl HT.out HI.out HO.out ?_; rw [hW]; clear hW)
  go_ret
  exact ⟨rfl, HB.out⟩
end Go.Proofs.YtlhlehdajkoogaaGreatDoor
/- LoginInit: what its loop keeps. -/
namespace Go.Proofs.YtlhlehdajkoogaaGreatDoor
open Go.RowKit

theorem i64_and7 (n : Int) : bits .and .i64 n 7 = n % 8 := by
  have h7 : (BitVec.ofInt 64 7).toNat = 2 ^ 3 - 1 := by decide
  have key : (BitVec.ofInt 64 n &&& BitVec.ofInt 64 7).toNat = (n % ((2 ^ 64 : Nat) : Int)).toNat % 2 ^ 3 := by
    rw [BitVec.toNat_and, BitVec.toNat_ofInt, h7, Nat.and_two_pow_sub_one_eq_mod]
  show IntKind.i64.wrap ((BitVec.ofInt 64 n &&& BitVec.ofInt 64 7).toNat : Nat) = n % 8
  rw [key, IntKind.wrap_i64]
  omega
theorem conv_one (W : World) (c : UInt8) : (convert 59 9 (.slice (some ⟨W.heap.size, 0, none⟩) 1 1)).run Tryz.prog (W.alloc (Obj.cells #[.int .u8 (c.toNat : Int)] 5)) = .ok (.string ⟨#[c]⟩) (W.alloc (Obj.cells #[.int .u8 (c.toNat : Int)] 5)) :=
  run_convert_bytes_back (P := Tryz.prog) (W.alloc (Obj.cells #[.int .u8 (c.toNat : Int)] 5)) 59 9 5 ⟨W.heap.size, 0, none⟩ 1 [c] Tryz.underlying59 Tryz.underlying5 Tryz.underlying9 (fun j hj => by
    obtain rfl : j = 0 := by simp at hj; exact hj
    exact cell_one_new W (.int .u8 (c.toNat : Int)) 5 0 _ rfl)
theorem stored_ans {w : World} {C : Array Value} (h : C.size = 19) : ∃ W, World.setCells (w.alloc (.cells #[.int .i64 0, .int .i64 0, .int .i64 0, .string ⟨#[]⟩, .slice none 0 0, .int .i64 0, .int .i64 0, .int .i64 0, .int .i64 0, .int .i64 0, .int .i64 0, .int .i64 0, .int .i64 0, .int .i64 0, .int .i64 0, .int .i64 0, .int .i64 0, .int .i64 0, .int .i64 0] 35)) w.heap.size 0 C.toList = W ∧ W.heap[w.heap.size]? = some (.cells C 35 (0, 0)) ∧ Below w.heap.size w W ∧ W.heap.size = w.heap.size + 1 ∧ (w.alloc (.cells #[.int .i64 0, .int .i64 0, .int .i64 0, .string ⟨#[]⟩, .slice none 0 0, .int .i64 0, .int .i64 0, .int .i64 0, .int .i64 0, .int .i64 0, .int .i64 0, .int .i64 0, .int .i64 0, .int .i64 0, .int .i64 0, .int .i64 0, .int .i64 0, .int .i64 0, .int .i64 0] 35)).there w.heap.size 0 C.size := by
  have hA := alloc_heap w (.cells ({} : An).cells 35)
  have hwr := heap_setCells C.toList 0 _ _ hA
  rw [putA_whole (show C.size = ({} : An).cells.size from h)] at hwr
  have hb := belowA (Below.refl w.heap.size w) (.cells ({} : An).cells 35)
  refine ⟨_, rfl, hwr, ⟨(setCells_os _ _ _).1.trans hb.os, (setCells_os _ _ _).2.1.trans hb.tape, (setCells_os _ _ _).2.2.trans hb.output, by rw [setCells_size]; exact hb.size, fun k hk => (heap_setCells_other (by omega) _ _ _).trans (hb.block k hk)⟩, by rw [setCells_size]; exact alloc_size _ _, ?_⟩
  rw [h]
  exact there_of hA
theorem an_zero : Value.agg ({} : An).cells = .agg #[.int .i64 0, .int .i64 0, .int .i64 0, .string ⟨#[]⟩, .slice none 0 0, .int .i64 0, .int .i64 0, .int .i64 0, .int .i64 0, .int .i64 0, .int .i64 0, .int .i64 0, .int .i64 0, .int .i64 0, .int .i64 0, .int .i64 0, .int .i64 0, .int .i64 0, .int .i64 0] := rfl
theorem an_one : ({} : An).cells.all (·.oneCell') = true := by
  simp [An.cells, Value.oneCell']
theorem an_size : ({} : An).cells.size = 19 := rfl
theorem an_n (n : Int) : ({} : An).cells.setIfInBounds 1 (.int .i64 n) = ({ n := n } : An).cells := rfl
/-! ### what the loop keeps -/
theorem ne_of_type {w : World} {a b : Nat} {C D : Array Value} {T U : TypeId} {f g : Nat × Nat} (h : w.heap[a]? = some (.cells C T f)) (k : w.heap[b]? = some (.cells D U g)) (hTU : T ≠ U) : a ≠ b := fun e => by
  subst e; rw [h] at k; injection k with k; injection k with _ k _; exact hTU k
/-- Blocks that are not x. -/
def Fx (x : Option Nat) (k : Nat) : Prop := some k ≠ x
/-- x is a row of numbers. -/
def Tx (w : World) (x : Option Nat) : Prop := ∀ k, x = some k → ∃ cur, w.heap[k]? = some (.cells cur 3 (0, 0))
theorem Tx.fx {w : World} {x : Option Nat} (h : Tx w x) : ∀ k, w.heap.size ≤ k → Fx x k := fun k hk e => by
  obtain ⟨cur, hc⟩ := h k e.symm
  have := lt_of_heap hc
  omega
theorem row_tx {w : World} {B n : Nat} {v : Value} {xs : List Value} (h : w.ownsRow B 3 1 v n xs) : Tx w v.ownBlock := fun k hk => by
  rcases h.2 with ⟨rfl, _⟩ | ⟨g, cap, cur, rfl, hb, hg, _⟩
  · cases hk
  · simp [Value.ownBlock] at hk; subst hk; exact ⟨cur, hg⟩
theorem row_keep {w w' : World} {B n : Nat} {v : Value} {xs : List Value} (h : w.ownsRow B 3 1 v n xs) (k : ∀ (b : Nat) (C : Array Value), w.heap[b]? = some (.cells C 3 (0, 0)) → w'.heap[b]? = some (.cells C 3 (0, 0))) : w'.ownsRow B 3 1 v n xs := by
  refine ⟨h.1, ?_⟩
  rcases h.2 with hn | ⟨g, cap, cur, rfl, hb, hg, rest⟩
  · exact .inl hn
  · exact .inr ⟨g, cap, cur, rfl, hb, k _ _ hg, rest⟩
/-- A program before its first call. -/
structure N0 (w : World) (d : FuncId) (s : ByteArray) (l p : Nat) : Prop where
  lies : L w l p
  st : ∃ prog v pd pw wv, M w p { prog := prog, todo := v, th := .nilFunc, c := { op := 0 } } ∧ One w { prog := prog, todo := v, th := .nilFunc, c := { op := 0 } } (.func (.func 27) #[] #[.pointer (some ⟨pd, 0, none⟩), .pointer (some ⟨pw, 0, none⟩)]) ∧ w.heap[pd]? = some (.cells #[.func (.func d) #[] #[]] FT (0, 0)) ∧ w.heap[pw]? = some (.cells #[wv] 22 (0, 0)) ∧ Words w wv s
theorem N0.of {w0 w : World} {prog s : ByteArray} {d : FuncId} {e : Ending} {l p pd pw : Nat} {v wv : Value} (h : Nw w0 w prog d s e l p pd pw v wv) : N0 w d s l p := ⟨h.l, prog, v, pd, pw, wv, h.m, h.one, h.pd, h.pw, h.words⟩
theorem N0.keep {w w' : World} {d : FuncId} {s : ByteArray} {l p : Nat} (h : N0 w d s l p) (k : ∀ (b : Nat) (C : Array Value) (U : TypeId), U ≠ 3 → w.heap[b]? = some (.cells C U (0, 0)) → w'.heap[b]? = some (.cells C U (0, 0))) : N0 w' d s l p := by
  obtain ⟨hl, prog, v, pd, pw, wv, h1, ⟨td, cap, cur, e1, e2, e3⟩, h3, h4, b, cap2, cur2, rfl, e5, e6⟩ := h
  exact ⟨k _ _ _ (by decide) hl, prog, v, pd, pw, _, k _ _ _ (by decide) h1, ⟨td, cap, cur, e1, k _ _ _ (by decide) e2, e3⟩, k _ _ _ (by decide) h3, k _ _ _ (by decide) h4, b, cap2, cur2, rfl, k _ _ _ (by decide) e5, e6⟩
theorem N0.first {F : Nat → Prop} {w : World} (hF : ∀ k, w.heap.size ≤ k → F k) {s : ByteArray} {l p : Nat} (h : N0 w 44 s l p) (hs : s.size = 1) (u : Nat) (hu : u < 100) (hp : Lib.parseUintB 8 s.data.toList = .ok u) (r : An) :
    Calls Tryz.prog 14 #[.pointer (some ⟨l, 0, none⟩), .agg r.cells] w (NextP p w (IS F (LGI.keepsM (List.replicate u 0) 0))) := by
  obtain ⟨hl, prog, v, pd, pw, wv, hm, ho, h3, h4, h5⟩ := h
  refine lnext_any hl hm r (fun m' w1 w2 k hh => hh.kb k) fun w1 h1 k1 s1 => ?_
  obtain ⟨td, cap, cur, g1, g2, g3, g4⟩ := ho
  refine start_any h1 rfl rfl g1 (k1 _ _ _ (by decide) (by decide) g2) g3 g4 r (fun m' w1 w2 k hh => hh.kb k) en_new fun w2 h2 k2 s2 => ?_
  have k3 := k1.trans k2
  refine newd_any (k3 _ _ _ (by decide) (by decide) h3) (k3 _ _ _ (by decide) (by decide) h4) en_initial ?_
  exact (initial_any (fun k hk => hF k (Nat.le_trans (Nat.le_trans s1.size s2.size) hk)) h2 (h5.kb k3) hs u hu hp).mono fun e w' hh => kq_told hh rfl
/-- A program, ready for an answer that lies in a block of its own. -/
structure LI (w0 w : World) (l p rb : Nat) (x : Option Nat) (md : LGI.Md) (r : An) : Prop where
  lies : L w l p
  ge : w0.heap.size ≤ p
  bel : Below w0.heap.size w0 w
  ans : w.heap[rb]? = some (.cells r.cells 35 (0, 0))
  rge : w0.heap.size ≤ rb
  st : (∃ s u, N0 w 44 s l p ∧ s.size = 1 ∧ u < 100 ∧ Lib.parseUintB 8 s.data.toList = .ok u ∧ md = LGI.keepsM (List.replicate u 0) 0) ∨ (∃ m md0, M w p m ∧ IS (Fx x) md0 m w ∧ md0.row.length < 100 ∧ md = stepM md0 r.n ∧ r.err = 0 ∧ 0 < r.n)
theorem LI.mach {w0 w : World} {l p rb : Nat} {x : Option Nat} {md : LGI.Md} {r : An} (h : LI w0 w l p rb x md r) : ∃ m, M w p m := by
  rcases h.st with ⟨s, u, ⟨_, prog, v, pd, pw, wv, hm, _⟩, _⟩ | ⟨m, md0, hm, _⟩
  · exact ⟨_, hm⟩
  · exact ⟨_, hm⟩
theorem LI.call {w0 w : World} {l p rb : Nat} {x : Option Nat} {md : LGI.Md} {r : An} (h : LI w0 w l p rb x md r) (hx : Tx w x) :
    Calls Tryz.prog 14 #[.pointer (some ⟨l, 0, none⟩), .agg r.cells] w (NextP p w (IS (Fx x) md)) := by
  rcases h.st with ⟨s, u, hn, h1, h2, h3, rfl⟩ | ⟨m, md0, hm, hi, h1, rfl, h2, h3⟩
  · exact hn.first hx.fx h1 u h2 h3 r
  · exact inext_any hx.fx h.lies hm hi h1 r h2 h3
theorem IS.keep {x x' : Option Nat} {md : LGI.Md} {m : Ma} {w w' : World} (h : IS (Fx x) md m w) (k : ∀ (b : Nat) (C : Array Value) (U : TypeId), some b ≠ x → w.heap[b]? = some (.cells C U (0, 0)) → w'.heap[b]? = some (.cells C U (0, 0)) ∧ some b ≠ x') : IS (Fx x') md m w' := by
  obtain ⟨⟨b, cap, cur, hF, e, h1, h2⟩, h3, h4⟩ := h
  obtain ⟨k1, k2⟩ := k _ _ _ hF h1
  refine ⟨⟨b, cap, cur, k2, e, k1, h2⟩, h3, ?_⟩
  cases md with
  | wait g => exact h4
  | fork g t =>
    obtain ⟨g1, g2, b', g0, g3, g4⟩ := h4
    obtain ⟨k3, k4⟩ := k _ _ _ g0 g4
    exact ⟨g1, g2, b', k4, g3, k3⟩
/-- The row x grows, or moves into a new block. -/
theorem LI.grow {w0 w w' : World} {l p rb : Nat} {x x' : Option Nat} {md : LGI.Md} {r : An} (h : LI w0 w l p rb x md r) (hx : Tx w x) (hg : w.grownBy w' x) (hge : ∀ k, x = some k → w0.heap.size ≤ k) (hx' : ∀ k, x' = some k → x = some k ∨ w.heap.size ≤ k) : LI w0 w' l p rb x' md r := by
  have k1 : ∀ (b : Nat) (C : Array Value) (U : TypeId), some b ≠ x → w.heap[b]? = some (.cells C U (0, 0)) → w'.heap[b]? = some (.cells C U (0, 0)) ∧ some b ≠ x' := fun b C U hb hc => by
    have hlt := lt_of_heap hc
    refine ⟨(hg.block b hlt hb).trans hc, fun e => ?_⟩
    rcases hx' b e.symm with h | h
    · exact hb h.symm
    · omega
  have k2 : ∀ (b : Nat) (C : Array Value) (U : TypeId), U ≠ 3 → w.heap[b]? = some (.cells C U (0, 0)) → w'.heap[b]? = some (.cells C U (0, 0)) := fun b C U hU hc => (k1 b C U (fun e => by
    obtain ⟨cur, hcur⟩ := hx b e.symm
    exact ne_of_type hc hcur hU rfl) hc).1
  refine ⟨k2 _ _ _ (by decide) h.lies, h.ge, ?_, k2 _ _ _ (by decide) h.ans, h.rge, ?_⟩
  · exact ⟨hg.os.trans h.bel.os, hg.tape.trans h.bel.tape, hg.output.trans h.bel.output, Nat.le_trans h.bel.size hg.size, fun j hj => (hg.block j (Nat.lt_of_lt_of_le hj h.bel.size) (fun e => by have := hge j e.symm; omega)).trans (h.bel.block j hj)⟩
  · rcases h.st with ⟨s, u, hn, h1⟩ | ⟨m, md0, hm, hi, h1⟩
    · exact .inl ⟨s, u, hn.keep k2, h1⟩
    · exact .inr ⟨m, md0, k2 _ _ _ (by decide) hm, hi.keep k1, h1⟩
/-- A program that told its call, which lies in a block of its own; and an empty answer. -/
structure TD (w0 w : World) (l p rb cb : Nat) (x : Option Nat) (md : LGI.Md) (m : Ma) : Prop where
  lies : L w l p
  mach : M w p m
  is : IS (Fx x) md m w
  ge : w0.heap.size ≤ p
  bel : Below w0.heap.size w0 w
  ans : w.heap[rb]? = some (.cells ({} : An).cells 35 (0, 0))
  rge : w0.heap.size ≤ rb
  told : w.heap[cb]? = some (.cells m.c.cells 39 (0, 0))
theorem IS.at {x : Option Nat} {md : LGI.Md} {m : Ma} {w w' : World} {rb : Nat} {Z : Array Value} (h : IS (Fx x) md m w) (hr : w.heap[rb]? = some (.cells Z 35 (0, 0))) (k : ∀ b, b ≠ rb → w'.heap[b]? = w.heap[b]?) : IS (Fx x) md m w' := by
  obtain ⟨⟨b, cap, cur, hF, e, h1, h2⟩, h3, h4⟩ := h
  refine ⟨⟨b, cap, cur, hF, e, (k b (ne_of_type h1 hr (by decide))).trans h1, h2⟩, h3, ?_⟩
  cases md with
  | wait g => exact h4
  | fork g t =>
    obtain ⟨g1, g2, b', g0, g3, g4⟩ := h4
    exact ⟨g1, g2, b', g0, g3, (k b' (ne_of_type g4 hr (by decide))).trans g4⟩
theorem TD.answer {w0 w : World} {l p rb cb : Nat} {x : Option Nat} {md : LGI.Md} {m : Ma} (h : TD w0 w l p rb cb x md m) (hlen : md.row.length < 100) (n : Int) (hn : 0 < n) : LI w0 (w.setCell ⟨rb, 1, none⟩ (.int .i64 n)) l p rb x (stepM md n) { n := n } := by
  have k : ∀ b, b ≠ rb → (w.setCell ⟨rb, 1, none⟩ (.int .i64 n)).heap[b]? = w.heap[b]? := fun b hb => Below.heap_setCell _ _ _ _ hb
  exact ⟨(k l (ne_of_type h.lies h.ans (by decide))).trans h.lies, h.ge, h.bel.setCell (p := ⟨rb, 1, none⟩) h.rge _, heap_setCell_same h.ans _, h.rge, .inr ⟨m, md, (k p (ne_of_type h.mach h.ans (by decide))).trans h.mach, h.is.at h.ans k, hlen, rfl, rfl, hn⟩⟩
theorem TD.row {w0 w : World} {l p rb cb : Nat} {x : Option Nat} {md : LGI.Md} {m : Ma} (h : TD w0 w l p rb cb x md m) {B n : Nat} {v : Value} {xs : List Value} (ho : w.ownsRow B 3 1 v n xs) (z : Value) : (w.setCell ⟨rb, 1, none⟩ z).ownsRow B 3 1 v n xs :=
  row_keep ho fun b C hc => (Below.heap_setCell _ _ _ _ (ne_of_type hc h.ans (by decide))).trans hc
theorem LI.step {w0 w w1 : World} {l p rb : Nat} {x : Option Nat} {md : LGI.Md} {r : An} (h : LI w0 w l p rb x md r) {m1 : Ma} (h1 : M w1 p m1) (h3 : Mo p w w1) (h4 : IS (Fx x) md m1 w1) {W1 W2 : World} (hW1 : W1.heap[w1.heap.size]? = some (.cells m1.c.cells 39 (0, 0))) (hb : Below w1.heap.size w1 W1) (hW2 : W1.setCells rb 0 ({} : An).cells.toList = W2) :
    TD w0 W2 l p rb w1.heap.size x md m1 ∧ (∀ B n v xs, w.ownsRow B 3 1 v n xs → W2.ownsRow B 3 1 v n xs) ∧ W1.there rb 0 19 := by
  obtain ⟨m, hm⟩ := h.mach
  have k1 := Kb.mo hm h3
  have k2 := k1.trans (Kb.below hb)
  have hans := k2 _ _ _ (by decide) (by decide) h.ans
  have k : ∀ b, b ≠ rb → W2.heap[b]? = W1.heap[b]? := fun b hne => by rw [← hW2]; exact heap_setCells_other hne _ _ _
  have hp : p ≠ rb := ne_of_type hm h.ans (by decide)
  refine ⟨⟨?_, ?_, ?_, h.ge, ?_, ?_, h.rge, ?_⟩, fun B n v xs ho => ?_, there_of hans⟩
  · exact (k l (ne_of_type (h.lies.kb k2) hans (by decide))).trans (h.lies.kb k2)
  · exact (k p hp).trans (h1.below hb)
  · exact (h4.kb (Kb.below hb)).at hans k
  · have hb1 := Mo.bel h.bel h3 h.ge (Nat.le_refl _)
    have hb2 := hb1.trans (hb.mono hb1.size)
    rw [← hW2]
    exact ⟨(setCells_os _ _ _).1.trans hb2.os, (setCells_os _ _ _).2.1.trans hb2.tape, (setCells_os _ _ _).2.2.trans hb2.output, by rw [setCells_size]; exact hb2.size, fun j hj => (heap_setCells_other (by have := h.rge; omega) _ _ _).trans (hb2.block j hj)⟩
  · rw [← hW2, heap_setCells _ _ _ _ hans, putA_whole (show ({} : An).cells.size = r.cells.size from rfl)]
  · exact (k _ (ne_of_type hW1 hans (by decide))).trans hW1
  · exact row_keep ho fun b C hc => (k b (ne_of_type (k2 _ _ _ (by decide) (by decide) hc) hans (by decide))).trans (k2 _ _ _ (by decide) (by decide) hc)
theorem LI.start {w0 w1 w : World} {prog s : ByteArray} {e0 : Ending} {l p pd pw rb T : Nat} {v wv : Value} (h : Nw w1 w prog 44 s e0 l p pd pw v wv) (hs : s.size = 1) (hT : T < 100) (hp : Lib.parseUintB 8 s.data.toList = .ok T) (hb : Below w0.heap.size w0 w1) (hr : w.heap[rb]? = some (.cells ({} : An).cells 35 (0, 0))) (hg : w0.heap.size ≤ rb) :
    LI w0 w l p rb none (LGI.keepsM (List.replicate T 0) 0) {} :=
  ⟨h.l, Nat.le_trans hb.size h.ge, hb.trans (h.bel.mono hb.size), hr, hg, .inl ⟨s, T, N0.of h, hs, hT, hp, rfl⟩⟩
end Go.Proofs.YtlhlehdajkoogaaGreatDoor
/- A law's rounds: a program told its call, an answer lies in a block of its own. -/
namespace Go.Proofs.YtlhlehdajkoogaaGreatDoor
open Go.RowKit

/-- A program before its first call. -/
def NewS (d : FuncId) (s : ByteArray) (m : Ma) (w : World) : Prop := ∃ prog v pd pw wv, m = { prog := prog, todo := v, th := .nilFunc, c := { op := 0 } } ∧ One w m (.func (.func 27) #[] #[.pointer (some ⟨pd, 0, none⟩), .pointer (some ⟨pw, 0, none⟩)]) ∧ w.heap[pd]? = some (.cells #[.func (.func d) #[] #[]] FT (0, 0)) ∧ w.heap[pw]? = some (.cells #[wv] 22 (0, 0)) ∧ Words w wv s
theorem NewS.kr {q : Nat} {d : FuncId} {s : ByteArray} {m : Ma} {w w' : World} (h : NewS d s m w) (k : Kr q w w') : NewS d s m w' := by
  obtain ⟨prog, v, pd, pw, wv, h1, ⟨td, cap, cur, e1, e2, e3⟩, h3, h4, b, cap2, cur2, rfl, e5, e6⟩ := h
  exact ⟨prog, v, pd, pw, _, h1, ⟨td, cap, cur, e1, k.get e2, e3⟩, k.get h3, k.get h4, b, cap2, cur2, rfl, k.get e5, e6⟩
theorem start_n {c : Cx} {w : World} {l : Nat} {m : Ma} {d : FuncId} {s : ByteArray} (hr : Run c l w m) (hs : NewS d s m w) (hen : Enters d) (r : An) {R : Ma → World → Prop} (hR : ∀ m' w1 w2, Kb w1 w2 → R m' w1 → R m' w2)
    (hk : ∀ w1 m1 v, Kb w w1 → Gx c w1 m1 → Words w1 v s → Calls Tryz.prog d #[.pointer (some ⟨c.p, 0, none⟩), v] w1 (ThP c.p w1 (Kst m1 R))) :
    Calls Tryz.prog 14 #[.pointer (some ⟨l, 0, none⟩), .agg r.cells] w (NextP c.p w (Kst m R)) := by
  obtain ⟨prog, v, pd, pw, wv, rfl, ho, h3, h4, h5⟩ := hs
  refine lnext_any hr.lies hr.mach r (fun m' w1 w2 k hh => ⟨hh.1, hR _ _ _ k hh.2⟩) fun w1 h1 k1 s1 => ?_
  obtain ⟨td, cap, cur, g1, g2, g3, g4⟩ := ho
  refine start_any h1 rfl rfl g1 (k1.get g2) g3 g4 r (fun m' w1 w2 k hh => ⟨hh.1, hR _ _ _ k hh.2⟩) en_new fun w2 h2 k2 s2 => ?_
  have k3 := k1.trans k2
  refine newd_any (k3.get h3) (k3.get h4) hen ?_
  have hh := hk w2 _ _ k3 ⟨h2, Mo.bel hr.bel (s1.trans s2) hr.ge (Nat.le_refl _), hr.ge, rfl, rfl, hr.st⟩ (h5.kb k3)
  exact hh
/-- A program that told its call, and an answer. -/
structure Td (c : Cx) (l : Nat) (S : Ma → World → Prop) (m : Ma) (A : Array Value) (w : World) : Prop where
  run : Run c l w m
  st : S m w
  ans : w.heap[c.q]? = some (.cells A 35 (0, 0))
  rge : c.w0.heap.size ≤ c.q
theorem Run.kr {c : Cx} {l : Nat} {w w' : World} {m : Ma} (h : Run c l w m) (hm : M w' c.p m) (hb : Below c.w0.heap.size c.w0 w') (k : Kr c.q w w') : Run c l w' m := ⟨k.get h.lies, hm, hb, h.ge, h.st⟩
theorem Td.next {c : Cx} {l : Nat} {S0 S : Ma → World → Prop} {m : Ma} {A : Array Value} {w w1 : World} {e : Ending} (h : Td c l S0 m A w) (hn : NextP c.p w (Kst m S) e w1) : ∃ m1, e = .returned (.agg m1.c.cells) ∧ m1.told ∧ Td c l S m1 A w1 := by
  obtain ⟨m1, he, h1, h2, h3, h4, h5⟩ := hn
  have k := Kb.mo h.run.mach h3
  exact ⟨m1, he, h2, ⟨h.run.lies.kb k, h1, Mo.bel h.run.bel h3 h.run.ge (Nat.le_refl _), h.run.ge, h4.trans h.run.st⟩, h5, k.get h.ans, h.rge⟩
theorem Td.below {c : Cx} {l : Nat} {S : Ma → World → Prop} (hS : ∀ m w w', Kr c.q w w' → S m w → S m w') {m : Ma} {A : Array Value} {w w1 : World} (h : Td c l S m A w) (hb : Below w.heap.size w w1) : Td c l S m A w1 :=
  ⟨h.run.kr (h.run.mach.below hb) (h.run.bel.trans (hb.mono h.run.bel.size)) ((Kb.below hb).kr _), hS _ _ _ ((Kb.below hb).kr _) h.st, (Kb.below hb).get h.ans, h.rge⟩
theorem Td.sets {c : Cx} {l : Nat} {S : Ma → World → Prop} (hS : ∀ m w w', Kr c.q w w' → S m w → S m w') {m : Ma} {A : Array Value} {w w1 : World} (h : Td c l S m A w) {B : Array Value} (hB : w1.heap[c.q]? = some (.cells B 35 (0, 0))) (hk : ∀ b, b ≠ c.q → w1.heap[b]? = w.heap[b]?) (hb : Below c.w0.heap.size c.w0 w1) : Td c l S m B w1 := by
  have k : Kr c.q w w1 := fun b C T _ _ h3 e => (hk b (fun hq => by
    have e2 := h.ans
    rw [← hq, e] at e2
    injection e2 with e2
    injection e2 with _ e2 _
    exact h3 e2 hq)).trans e
  exact ⟨h.run.kr ((hk c.p (ne_of_type h.run.mach h.ans (by decide))).trans h.run.mach) hb k, hS _ _ _ k h.st, hB, h.rge⟩
theorem Td.set {c : Cx} {l : Nat} {S : Ma → World → Prop} (hS : ∀ m w w', Kr c.q w w' → S m w → S m w') {m : Ma} {A : Array Value} {w : World} (h : Td c l S m A w) (i : Nat) (v : Value) : Td c l S m (A.setIfInBounds i v) (w.setCell ⟨c.q, i, none⟩ v) :=
  h.sets hS (heap_setCell_same h.ans v) (fun b hb => Below.heap_setCell _ _ _ _ hb) (h.run.bel.setCell (p := ⟨c.q, i, none⟩) h.rge _)
theorem Td.whole {c : Cx} {l : Nat} {S : Ma → World → Prop} (hS : ∀ m w w', Kr c.q w w' → S m w → S m w') {m : Ma} {A : Array Value} {w : World} (h : Td c l S m A w) {C : Array Value} (hC : C.size = A.size) : Td c l S m C (w.setCells c.q 0 C.toList) :=
  h.sets hS (by rw [heap_setCells _ _ _ _ h.ans, putA_whole hC]) (fun b hb => heap_setCells_other hb _ _ _) (by
    have hb2 := h.run.bel
    exact ⟨(setCells_os _ _ _).1.trans hb2.os, (setCells_os _ _ _).2.1.trans hb2.tape, (setCells_os _ _ _).2.2.trans hb2.output, by rw [setCells_size]; exact hb2.size, fun j hj => (heap_setCells_other (by have := h.rge; omega) _ _ _).trans (hb2.block j hj)⟩)
/-- The call lies in a block of its own. -/
def Tc (w : World) (b : Nat) (m : Ma) : Prop := w.heap[b]? = some (.cells m.c.cells 39 (0, 0))
end Go.Proofs.YtlhlehdajkoogaaGreatDoor
/- A password that cannot be guessed; two programs. -/
namespace Go.Proofs.YtlhlehdajkoogaaGreatDoor
open Go.RowKit

def sStar : ByteArray := ⟨#[42]⟩
set_option maxRecDepth 100000 in
set_option maxHeartbeats 1000000 in
theorem star_any (ty : ByteArray) (w : World) :
    Calls Tryz.prog 100 #[.string sStar, .string ty] w fun e w' => e = .returned (.bool false) ∧ Below w.heap.size w w' := by
  have HR := Lib.hid (Pw.Mx.read_any sStar w (show 1 ≤ 140737488351232 by omega))
  have HN : Hid (¬ Pw.Mx.isField sStar.data.toList) := Lib.hid (by
    rintro ⟨h, t, he, h1, _⟩
    have := congrArg List.length he
    simp [sStar] at this
    omega)
  have h1 : sStar.toList.isEmpty = false := by rw [ByteArray.toList_eq]; rfl
  go_enter Tryz.func100, Tryz.ntmps100
  go_wp2_with fail
  refine HR.out.mono ?_
  rintro e w' ⟨n, ok, rfl, hb, hok, hn⟩
  have hf : ok = false := by
    cases ok with
    | false => rfl
    | true => exact absurd (hok.1 rfl) HN.out
  subst hf
  have HB := Lib.hid hb
  clear hok hb hn HR HN
  go_wp2
  go_ret
  exact ⟨rfl, HB.out⟩
set_option maxRecDepth 100000 in
theorem prog_su (w : World) : Calls Tryz.prog 25 #[.string ⟨#[115, 117]⟩] w fun e w' => e = .returned (.func (.func 47) #[] #[]) ∧ w' = w := by
  go_enter Tryz.func25, Tryz.ntmps25
  go_wp2
  go_ret
  exact ⟨rfl, rfl⟩
set_option maxRecDepth 100000 in
theorem prog_login (w : World) : Calls Tryz.prog 25 #[.string ⟨#[108, 111, 103, 105, 110]⟩] w fun e w' => e = .returned (.func (.func 46) #[] #[]) ∧ w' = w := by
  go_enter Tryz.func25, Tryz.ntmps25
  go_wp2
  go_ret
  exact ⟨rfl, rfl⟩
/-- A program that has begun nothing, in its place. -/
theorem Nw.run {w0 w : World} {prog : ByteArray} {d : FuncId} {s : ByteArray} {e : Ending} {l p pd pw : Nat} {v wv : Value} (h : Nw w0 w prog d s e l p pd pw v wv) {B : World} (hb : Below B.heap.size B w0) (q : Nat) :
    Run ⟨B, p, q, (prog, .slice none 0 0, false, 0)⟩ l w { prog := prog, todo := v, th := .nilFunc, c := { op := 0 } } ∧ NewS d s { prog := prog, todo := v, th := .nilFunc, c := { op := 0 } } w :=
  ⟨⟨h.l, h.m, hb.trans (h.bel.mono hb.size), Nat.le_trans hb.size h.ge, rfl⟩, prog, v, pd, pw, wv, rfl, h.one, h.pd, h.pw, h.words⟩
end Go.Proofs.YtlhlehdajkoogaaGreatDoor
/- LoginSwitches: su's stages, one after another. -/
namespace Go.Proofs.YtlhlehdajkoogaaGreatDoor
open Go.RowKit

/-- Where su stands. -/
inductive SuG
  | new | ids | opn | slp (a : Nat) | clo | bec | ask | say | rd | ec | note | wrong | fin
namespace SuG
def nxt (N : Nat) (z : Bool) : SuG → SuG
  | .new => .ids
  | .ids => .opn
  | .opn => .slp 0
  | .slp a => if a < N then .slp (min (a + 256) N) else .clo
  | .clo => if z then .bec else .ask
  | .bec => .bec
  | .ask => .say
  | .say => .rd
  | .rd => .ec
  | .ec => .note
  | .note => .wrong
  | .wrong => .fin
  | .fin => .fin
/-- How much of the text was told ahead of a call. -/
def atT (N : Nat) : SuG → Nat
  | .new => 0
  | .ids => 0
  | .opn => 0
  | .slp a => a
  | _ => N
def atH (N : Nat) : SuG → Nat
  | .slp a => min (a + 256) N
  | g => atT N g
/-- Was a password asked for? -/
def askT : SuG → Bool
  | .ec => true
  | .note => true
  | .wrong => true
  | .fin => true
  | _ => false
def askH : SuG → Bool
  | .rd => true
  | g => askT g
theorem at_nxt (N : Nat) (z : Bool) (g : SuG) (h : ∀ a, g = .slp a → a ≤ N) : atT N (nxt N z g) = atH N g := by
  cases g with
  | slp a =>
    have := h a rfl
    show atT N (if a < N then .slp (min (a + 256) N) else .clo) = min (a + 256) N
    by_cases hlt : a < N
    · rw [if_pos hlt]; rfl
    · rw [if_neg hlt]; simp only [atT]; omega
  | clo => cases z <;> rfl
  | _ => rfl
theorem ask_nxt (N : Nat) (z : Bool) (g : SuG) : askT (nxt N z g) = askH g := by
  cases g with
  | slp a =>
    show askT (if a < N then .slp (min (a + 256) N) else .clo) = false
    by_cases hlt : a < N
    · rw [if_pos hlt]; rfl
    · rw [if_neg hlt]; rfl
  | clo => cases z <;> rfl
  | _ => rfl
/-- How many calls were made. -/
def Bd (N : Nat) : SuG → Nat → Prop
  | .new, k => k = 0
  | .ids, k => k = 1
  | .opn, k => k = 2
  | .slp a, k => 3 ≤ k ∧ 256 * (k - 3) ≤ a + 255 ∧ a ≤ N ∧ (a % 256 = 0 ∨ a = N)
  | .clo, k => k ≤ 14
  | .bec, k => k ≤ 50
  | .ask, k => k ≤ 15
  | .say, k => k ≤ 16
  | .rd, k => k ≤ 17
  | .ec, k => k ≤ 18
  | .note, k => k ≤ 19
  | .wrong, k => k ≤ 20
  | .fin, k => k ≤ 50
theorem Bd.nxt {N : Nat} (hN : N ≤ 2500) {z : Bool} {g : SuG} {k : Nat} (h : Bd N g k) (h1 : g ≠ .bec) (h2 : g ≠ .fin) : Bd N (nxt N z g) (k + 1) := by
  cases g with
  | slp a =>
    obtain ⟨e1, e2, e3, e4⟩ := h
    show Bd N (if a < N then .slp (min (a + 256) N) else .clo) (k + 1)
    by_cases hlt : a < N
    · rw [if_pos hlt]; simp only [Bd]; omega
    · rw [if_neg hlt]; simp only [Bd]; omega
  | clo =>
    have h' : k ≤ 14 := h
    cases z with
    | false => exact (show k + 1 ≤ 15 by omega)
    | true => exact (show k + 1 ≤ 50 by omega)
  | bec => exact absurd rfl h1
  | fin => exact absurd rfl h2
  | new => have h' : k = 0 := h; exact (show k + 1 = 1 by omega)
  | ids => have h' : k = 1 := h; exact (show k + 1 = 2 by omega)
  | opn => have h' : k = 2 := h; exact ⟨by omega, by omega, by omega, .inl rfl⟩
  | ask => have h' : k ≤ 15 := h; exact (show k + 1 ≤ 16 by omega)
  | say => have h' : k ≤ 16 := h; exact (show k + 1 ≤ 17 by omega)
  | rd => have h' : k ≤ 17 := h; exact (show k + 1 ≤ 18 by omega)
  | ec => have h' : k ≤ 18 := h; exact (show k + 1 ≤ 19 by omega)
  | note => have h' : k ≤ 19 := h; exact (show k + 1 ≤ 20 by omega)
  | wrong => have h' : k ≤ 20 := h; exact (show k + 1 ≤ 50 by omega)
theorem Bd.le {N : Nat} (hN : N ≤ 2500) {g : SuG} {k : Nat} (h : Bd N g k) (h1 : g ≠ .bec) (h2 : g ≠ .fin) : k < 60 := by
  cases g with
  | bec => exact absurd rfl h1
  | fin => exact absurd rfl h2
  | slp a =>
    obtain ⟨e1, e2, e3, e4⟩ := h
    omega
  | new => have h' : k = 0 := h; omega
  | ids => have h' : k = 1 := h; omega
  | opn => have h' : k = 2 := h; omega
  | clo => have h' : k ≤ 14 := h; omega
  | ask => have h' : k ≤ 15 := h; omega
  | say => have h' : k ≤ 16 := h; omega
  | rd => have h' : k ≤ 17 := h; omega
  | ec => have h' : k ≤ 18 := h; omega
  | note => have h' : k ≤ 19 := h; omega
  | wrong => have h' : k ≤ 20 := h; omega
end SuG
/-- What su is about. -/
structure SuX where
  c : Cx
  name : ByteArray
  text : ByteArray
  typed : ByteArray
  real : Int
  u : Pw.UserS
abbrev BecQ (u : Pw.UserS) (m : Ma) (w : World) : Prop := ∃ f, BecS u f m w
/-- su at a stage. -/
def SuP (X : SuX) : SuG → Ma → World → Prop
  | .new, m, w => NewS 47 X.name m w
  | .ids, m, w => IdsS X.name m w
  | .opn, m, w => ∃ f r, r.real = X.real ∧ OpenS f m w ∧ SuB X.c.q X.name r f w
  | .slp a, m, w => ∃ f r, r.real = X.real ∧ UsS 3 (X.text.extract 0 a) f m w ∧ SuB X.c.q X.name r f w
  | .clo, m, w => ∃ f r, r.real = X.real ∧ UcS 3 X.text f m w ∧ SuB X.c.q X.name r f w
  | .bec, m, w => BecQ X.u m w
  | .ask, m, w => ∃ g f, AskS sPw g m w ∧ PrvB X.name X.u true f g w ∧ Kt X.c (BecQ X.u) f w
  | .say, m, w => ∃ g f, AskSay sPw g m w ∧ PrvB X.name X.u true f g w ∧ Kt X.c (BecQ X.u) f w
  | .rd, m, w => ∃ g f, AskRd g m w ∧ PrvB X.name X.u true f g w ∧ Kt X.c (BecQ X.u) f w
  | .ec, m, w => ∃ g f ty, ty.size ≤ 2000 ∧ AskEc ty g m w ∧ PrvB X.name X.u true f g w ∧ Kt X.c (BecQ X.u) f w
  | .note, m, w => NoteQ X.c X.name false (BecQ X.u) m w
  | .wrong, m, w => FailS sWrong m w
  | .fin, m, w => EndS 1 m w
theorem SuP.kr {X : SuX} (g : SuG) (m : Ma) (w w' : World) (k : Kr X.c.q w w') (h : SuP X g m w) : SuP X g m w' := by
  cases g with
  | new => exact NewS.kr h k
  | ids => exact IdsS.kr h k
  | opn => obtain ⟨f, r, h0, h1, h2⟩ := h; exact ⟨f, r, h0, h1.kr k, h2.kr k⟩
  | slp a => obtain ⟨f, r, h0, h1, h2⟩ := h; exact ⟨f, r, h0, h1.kr k, h2.kr k⟩
  | clo => obtain ⟨f, r, h0, h1, h2⟩ := h; exact ⟨f, r, h0, h1.kr k, h2.kr k⟩
  | bec => obtain ⟨f, h1⟩ := h; exact ⟨f, h1.kr k⟩
  | ask => obtain ⟨g, f, h1, h2, h3⟩ := h; exact ⟨g, f, h1.kr k, h2.kr k, h3.kr k⟩
  | say => obtain ⟨g, f, h1, h2, h3⟩ := h; exact ⟨g, f, h1.kr k, h2.kr k, h3.kr k⟩
  | rd => obtain ⟨g, f, h1, h2, h3⟩ := h; exact ⟨g, f, h1.kr k, h2.kr k, h3.kr k⟩
  | ec => obtain ⟨g, f, ty, h0, h1, h2, h3⟩ := h; exact ⟨g, f, ty, h0, h1.kr k, h2.kr k, h3.kr k⟩
  | note => exact NoteQ.kr h k
  | wrong => exact FailS.kr h k
  | fin => exact EndS.kb h
/-- The answer to the call of a stage. -/
def rSu (X : SuX) : SuG → An
  | .new => {}
  | .ids => { n := 3, real := X.real }
  | .slp a => { n := 3, text := X.text.extract a (min (a + 256) X.text.size) }
  | .say => { n := 10 }
  | .rd => { n := 3, text := X.typed }
  | .wrong => { n := 10 }
  | _ => { n := 3 }
/-- What holds of su's file, name and user. -/
structure SuF (X : SuX) (L : List Pw.UserS) : Prop where
  st : X.c.x = (⟨#[115, 117]⟩, .slice none 0 0, false, 0)
  has : Pw.HasW X.c.w0
  right : Pw.RightU L
  text : Pw.printB L = X.text.data.toList
  len : X.text.size ≤ 2500
  typed : X.typed.size ≤ 300
  user : ∃ k : Nat, ∃ h : k < L.length, Pw.isName X.name L[k] = true ∧ L[k] = X.u ∧ ∀ j (hj : j < L.length), Pw.isName X.name L[j] = true → j = k
  pass : X.u.pass = sStar
theorem text_step (t : ByteArray) (a : Nat) (ha : a ≤ t.size) : t.extract 0 a ++ t.extract a (min (a + 256) t.size) = t.extract 0 (min (a + 256) t.size) := by
  rw [ByteArray.extract_append_extract]
  congr 1 <;> omega
theorem text_whole (t : ByteArray) (a : Nat) (ha : t.size ≤ a) : t.extract 0 a = t := by
  apply ByteArray.ext
  rw [ByteArray.data_extract]
  exact Array.extract_eq_self_of_le ha
theorem text_emp (t : ByteArray) (a b : Nat) : (t.extract a b).toList.isEmpty = decide (min b t.size ≤ a) := by
  have h : (t.extract a b).size = min b t.size - a := ByteArray.size_extract
  have e : (t.extract a b).toList.isEmpty = decide ((t.extract a b).size = 0) := by
    rw [ByteArray.toList_eq]
    generalize t.extract a b = s
    rw [Bool.eq_iff_iff, List.isEmpty_iff, decide_eq_true_iff]
    constructor
    · intro h; show s.data.size = 0; rw [← Array.length_toList, h]; rfl
    · intro h; exact List.eq_nil_of_length_eq_zero (by rw [Array.length_toList]; exact h)
  rw [e, h]
  congr 1
  rw [eq_iff_iff]
  omega
theorem typed_size (r : An) (h : r.text.size ≤ 2000) : (typedS r).size ≤ 2000 := by
  unfold typedS
  split
  · show (Lib.trimSuffix r.text.data.toList [10]).toArray.size ≤ 2000
    rw [List.size_toArray]
    have h1 : (Lib.trimSuffix r.text.data.toList [10]).length ≤ r.text.data.toList.length := by
      unfold Lib.trimSuffix
      split <;> simp
    have h2 : r.text.data.toList.length = r.text.size := Array.length_toList
    omega
  · exact Nat.zero_le _
theorem NextP.more {p : Nat} {w : World} {m : Ma} {R R2 : Ma → World → Prop} {e : Ending} {w' : World} (hM : M w p m) (h : NextP p w R e w') (f : ∀ m' w', Kb w w' → R m' w' → R2 m' w') : NextP p w R2 e w' := by
  obtain ⟨m', h1, h2, h3, h4, h5⟩ := h
  exact ⟨m', h1, h2, h3, h4, f _ _ (Kb.mo hM h4) h5⟩
theorem SuB.ut {c : Cx} {name : ByteArray} {r : An} {f : Value} {w : World} (h : SuB c.q name r f w) {L : List Pw.UserS} (hL : L.length ≤ 8) {u : Pw.UserS} (hu : ∃ k : Nat, ∃ h : k < L.length, Pw.isName name L[k] = true ∧ L[k] = u ∧ ∀ j (hj : j < L.length), Pw.isName name L[j] = true → j = k) (hp : u.pass.toList.isEmpty = false) : Ut c L (SuQ c name r.real u) f w := by
  obtain ⟨bn, br, rfl, h1, h2, h3⟩ := h
  exact ⟨_, _, rfl, en_su2, fun w1 m v hv k g => su2_any g (k.get h1) (k _ _ _ (by decide) (by decide) (fun _ => h3) h2) hv hL hu hp⟩
/-- From a stage to the next one. -/
theorem su_next {X : SuX} {L : List Pw.UserS} (F : SuF X L) {w : World} {l : Nat} {m : Ma} (hr : Run X.c l w m) (g : SuG) (hs : SuP X g m w) (ha : ∀ a, g = .slp a → a ≤ X.text.size) (h1 : g ≠ .bec) (h2 : g ≠ .fin) {A : Array Value} (hq : w.heap[X.c.q]? = some (.cells A 35 (0, 0))) :
    Calls Tryz.prog 14 #[.pointer (some ⟨l, 0, none⟩), .agg (rSu X g).cells] w (NextP X.c.p w (Kst m (SuP X (g.nxt X.text.size (decide (X.real = 0)))))) := by
  have hR : ∀ g m' w1 w2, Kb w1 w2 → SuP X g m' w1 → SuP X g m' w2 := fun g m' w1 w2 k h => SuP.kr g m' w1 w2 (k.kr _) h
  have hst := hr.st.trans F.st
  have hpr : m.prog = ⟨#[115, 117]⟩ := congrArg (·.1) hst
  have hwr : m.writes = false := congrArg (·.2.2.1) hst
  have hpw : sPw.toList.isEmpty = false := by rw [ByteArray.toList_eq]; rfl
  have hpe : X.u.pass.toList.isEmpty = false := by rw [F.pass, ByteArray.toList_eq]; rfl
  cases g with
  | new => exact start_n hr hs en_su _ (hR _) fun w1 m1 v k g hw => su_any g.mach g.over hw
  | ids =>
    obtain ⟨ho, _, bn, e1, e2⟩ := hs
    refine go_next hr ho e1 _ (hR _) en_su1 fun w1 k g => ?_
    refine (su1_any g.mach ho (k.get e2) (q := X.c.q) (lt_of_heap (k.get hq)) (rSu X .ids)).mono fun e w2 h => h.mono fun m' w' hh => ⟨hh.1, ?_⟩
    obtain ⟨f, h3, h4⟩ := hh.2
    exact ⟨f, _, rfl, h3, h4⟩
  | opn =>
    obtain ⟨f, r, e0, e1, e2⟩ := hs
    refine (us1_n hr e1 (rSu X .opn) rfl).mono fun e w2 h => h.more hr.mach fun m' w' k hh => ⟨hh.1, f, r, e0, ?_, e2.kr (k.kr _)⟩
    have : X.text.extract 0 0 = ⟨#[]⟩ := by
      apply ByteArray.ext
      rw [ByteArray.data_extract]
      simp
    rw [this]
    exact hh.2
  | slp a =>
    obtain ⟨f, r, e0, e1, e2⟩ := hs
    have hle := ha a rfl
    by_cases hlt : a < X.text.size
    · have e : SuG.nxt X.text.size (decide (X.real = 0)) (.slp a) = .slp (min (a + 256) X.text.size) := if_pos hlt
      rw [e]
      have hz := F.len
      refine (us2_more hr e1 (rSu X (.slp a)) rfl ?_ ?_).mono fun e w2 h => h.more hr.mach fun m' w' k hh => ⟨hh.1, f, r, e0, ?_, e2.kr (k.kr _)⟩
      · show (X.text.extract a (min (a + 256) X.text.size)).toList.isEmpty = false
        rw [text_emp, decide_eq_false_iff_not]
        omega
      · show (X.text.extract 0 a ++ X.text.extract a (min (a + 256) X.text.size)).size ≤ 4096
        rw [text_step _ _ hle, ByteArray.size_extract]
        omega
      · have := hh.2
        rw [show X.text.extract 0 a ++ (rSu X (.slp a)).text = X.text.extract 0 (min (a + 256) X.text.size) from text_step _ _ hle] at this
        exact this
    · have e : SuG.nxt X.text.size (decide (X.real = 0)) (.slp a) = .clo := if_neg hlt
      rw [e]
      refine (us2_end hr e1 (rSu X (.slp a)) (.inr ⟨rfl, ?_⟩)).mono fun e w2 h => h.more hr.mach fun m' w' k hh => ⟨hh.1, f, r, e0, ?_, e2.kr (k.kr _)⟩
      · show (X.text.extract a (min (a + 256) X.text.size)).toList.isEmpty = true
        rw [text_emp, decide_eq_true_iff]
        omega
      · have := hh.2
        rw [text_whole _ _ (by omega)] at this
        exact this
  | clo =>
    obtain ⟨f, r, e0, e1, e2⟩ := hs
    have hp := Pw.parse_of F.right 1
    rw [F.text] at hp
    have hlen := F.right.len
    refine (us3_n hr F.has e1 (by rw [show X.text.data.toList.length = X.text.size from Array.length_toList]; have := F.len; omega) hp (R := SuQ X.c X.name r.real X.u) (fun m' w1 w2 k h => h.kr (k.kr _)) (e2.ut hlen F.user hpe) (rSu X .clo)).mono fun e w2 h => h.more hr.mach fun m' w' k hh => ⟨hh.1, ?_⟩
    rcases hh.2 with ⟨h3, h4⟩ | ⟨h3, h4⟩
    · rw [show SuG.nxt X.text.size (decide (X.real = 0)) .clo = .bec from if_pos (decide_eq_true (e0.symm.trans h3))]
      exact h4
    · rw [show SuG.nxt X.text.size (decide (X.real = 0)) .clo = .ask from if_neg (by rw [decide_eq_true_iff]; exact fun h => h3 (e0.trans h))]
      exact h4
  | bec => exact absurd rfl h1
  | ask =>
    obtain ⟨g, f, e1, e2, e3⟩ := hs
    exact (ask1_n hr e1 hpw (rSu X .ask) rfl).mono fun e w2 h => h.more hr.mach fun m' w' k hh => ⟨hh.1, g, f, hh.2, e2.kr (k.kr 0), e3.kr (k.kr _)⟩
  | say =>
    obtain ⟨g, f, e1, e2, e3⟩ := hs
    exact (ask2_n hr e1 (rSu X .say) rfl (show (1 : Int) ≤ 10 by omega) (show ((10 : Nat) : Int) ≤ 10 by omega)).mono fun e w2 h => h.more hr.mach fun m' w' k hh => ⟨hh.1, g, f, hh.2, e2.kr (k.kr 0), e3.kr (k.kr _)⟩
  | rd =>
    obtain ⟨g, f, e1, e2, e3⟩ := hs
    have ht := F.typed
    exact (ask3_n hr e1 (rSu X .rd) (show X.typed.size ≤ 9223372036854775807 by omega)).mono fun e w2 h => h.more hr.mach fun m' w' k hh => ⟨hh.1, g, f, _, typed_size _ (show X.typed.size ≤ 2000 by omega), hh.2, e2.kr (k.kr 0), e3.kr (k.kr _)⟩
  | ec =>
    obtain ⟨g, f, ty, hty, e1, e2, e3⟩ := hs
    have ht : Tt X.c (fun ty => NoteQ X.c X.name (true && false) (BecQ X.u)) g w := e2.tt e3 (mt := fun _ => false) fun ty w1 _ _ => by
      rw [F.pass]
      exact star_any ty w1
    exact ask4_n hr e1 (fun m' w1 w2 k h => h.kr (k.kr _)) ht hty (rSu X .ec)
  | note => exact note_no hr hs hwr (by rw [hpr]; exact (show 2 ≤ 1000000 by omega)) _
  | wrong =>
    exact fail_n hr hs (rSu X .wrong) rfl (show (1 : Int) ≤ 10 by omega) (by rw [hpr]; exact (show ((10 : Nat) : Int) ≤ 10 by omega))
  | fin => exact absurd rfl h2
end Go.Proofs.YtlhlehdajkoogaaGreatDoor
/- su's calls, by kinds. -/
namespace Go.Proofs.YtlhlehdajkoogaaGreatDoor
open Go.RowKit

namespace SuG
/-- What a late stage says of the asker: is it 0? -/
def late : SuG → Option Bool
  | .bec => some true
  | .ask => some false
  | .say => some false
  | .rd => some false
  | .ec => some false
  | .note => some false
  | .wrong => some false
  | .fin => some false
  | _ => none
theorem late_nxt (N : Nat) (z : Bool) (g : SuG) (h : ∀ b, late g = some b → b = z) : ∀ b, late (nxt N z g) = some b → b = z := by
  cases g with
  | slp a =>
    intro b hb
    have hb' : late (if a < N then .slp (min (a + 256) N) else .clo) = some b := hb
    by_cases hlt : a < N
    · rw [if_pos hlt] at hb'; cases hb'
    · rw [if_neg hlt] at hb'; cases hb'
  | clo => cases z <;> intro b hb <;> cases hb <;> rfl
  | new => intro b hb; cases hb
  | ids => intro b hb; cases hb
  | opn => intro b hb; cases hb
  | bec => exact h
  | ask => exact h
  | say => exact h
  | rd => exact h
  | ec => exact h
  | note => exact h
  | wrong => exact h
  | fin => exact h
theorem nxt_new (N : Nat) (z : Bool) (g : SuG) : nxt N z g ≠ .new := by
  cases g with
  | slp a =>
    show (if a < N then SuG.slp (min (a + 256) N) else .clo) ≠ .new
    by_cases hlt : a < N
    · rw [if_pos hlt]; exact fun h => by cases h
    · rw [if_neg hlt]; exact fun h => by cases h
  | clo => cases z <;> exact fun h => by cases h
  | _ => exact fun h => by cases h
end SuG
/-- A call that the law passes over. -/
def DefOp (z : Int) : Prop := (z == 22) = false ∧ (z == 4) = false ∧ (z == 5) = false ∧ (z == 23) = false ∧ (z == 20) = false
/-- su's calls. -/
inductive SuK (X : SuX) : SuG → Ca → Prop
  | ids {c : Ca} : c.op = 22 → SuK X .ids c
  | slp {c : Ca} (a : Nat) : c.op = 4 → c.fd = 3 → SuK X (.slp a) c
  | rd {c : Ca} : c.op = 4 → c.fd = 0 → SuK X .rd c
  | wr {c : Ca} (g : SuG) : g = .say ∨ g = .wrong → c.op = 5 → c.text.size = 10 → SuK X g c
  | bec {c : Ca} : c.op = 23 → c.owner = X.u.id → c.group = X.u.group → SuK X .bec c
  | fin {c : Ca} : c.op = 20 → c.n = 1 → SuK X .fin c
  | other {c : Ca} (g : SuG) : DefOp c.op → g ≠ .bec → g ≠ .fin → rSu X g = { n := 3 } → SuG.atH X.text.size g = SuG.atT X.text.size g → SuG.askH g = SuG.askT g → SuK X g c
theorem SuP.kind {X : SuX} {g : SuG} {m : Ma} {w : World} (h : SuP X g m w) (hn : g ≠ .new) (hp : m.prog = ⟨#[115, 117]⟩) : SuK X g m.c := by
  cases g with
  | new => exact absurd rfl hn
  | ids => obtain ⟨_, e, _⟩ := h; rw [e]; exact .ids rfl
  | opn =>
    obtain ⟨f, r, _, ⟨b, bt, e, _⟩, _⟩ := h
    rw [e.c]
    exact .other _ ⟨rfl, rfl, rfl, rfl, rfl⟩ (by simp) (by simp) rfl rfl rfl
  | slp a =>
    obtain ⟨f, r, _, ⟨b, e, _⟩, _⟩ := h
    rw [e.c]
    exact .slp a rfl rfl
  | clo =>
    obtain ⟨f, r, _, ⟨b, e, _⟩, _⟩ := h
    rw [e.c]
    exact .other _ ⟨rfl, rfl, rfl, rfl, rfl⟩ (by simp) (by simp) rfl rfl rfl
  | bec =>
    obtain ⟨f, bt, e, _⟩ := h
    rw [e.c]
    exact .bec rfl rfl rfl
  | ask =>
    obtain ⟨g, f, ⟨b, bp, bt, e, _⟩, _⟩ := h
    rw [e.c]
    exact .other _ ⟨rfl, rfl, rfl, rfl, rfl⟩ (by simp) (by simp) rfl rfl rfl
  | say =>
    obtain ⟨g, f, ⟨bt, e, _⟩, _⟩ := h
    rw [e.c]
    exact .wr _ (.inl rfl) rfl rfl
  | rd =>
    obtain ⟨g, f, ⟨_, e, _⟩, _⟩ := h
    rw [e]
    exact .rd rfl rfl
  | ec =>
    obtain ⟨g, f, ty, _, ⟨_, e, _⟩, _⟩ := h
    rw [e]
    exact .other _ ⟨rfl, rfl, rfl, rfl, rfl⟩ (by simp) (by simp) rfl rfl rfl
  | note =>
    obtain ⟨f, ⟨_, e, _⟩, _⟩ := h
    rw [e]
    exact .other _ ⟨rfl, rfl, rfl, rfl, rfl⟩ (by simp) (by simp) rfl rfl rfl
  | wrong =>
    have e := SayS.c h
    rw [e, hp]
    exact .wr _ (.inr rfl) rfl rfl
  | fin =>
    have e := EndS.c h
    rw [e]
    exact .fin rfl rfl
end Go.Proofs.YtlhlehdajkoogaaGreatDoor
/- Clone, Change. -/
namespace Go.Proofs.Pw
open Go.RowKit

theorem cells_one : ∀ (L : List UserS), ∀ u ∈ cellsU L, u.oneCell' = true
  | [], u, h => by cases h
  | x :: L, u, h => by
    rw [cellsU_cons] at h
    rcases List.mem_append.1 h with h | h
    · simp [userC] at h
      rcases h with rfl | rfl | rfl | rfl | rfl | rfl <;> rfl
    · exact cells_one L u h
theorem inU_cells {w : World} {ad : Addr} {cap : Nat} {L : List UserS} (h : InU w (.slice (some ad) L.length cap) L) (j : Nat) (u : Value) (hj : (cellsU L)[j]? = some u) : w.cell? (ad.add j) = some u := by
  obtain ⟨a', cap', hv, hc⟩ := h
  obtain ⟨rfl, rfl⟩ : some ad = a' ∧ cap = cap' := by simp at hv; exact ⟨hv.1, hv.2⟩
  have hlt : j < (cellsU L).length := (List.getElem?_eq_some_iff.1 hj).1
  rw [cellsU_len] at hlt
  have hq : j / 6 < L.length := by omega
  have hr : j % 6 < 6 := Nat.mod_lt _ (by decide)
  obtain ⟨b, off, hb, h⟩ := hc (j / 6) hq
  obtain rfl : ad = ⟨b, off, none⟩ := by simpa using hb
  have h1 := h (j % 6) hr
  rw [← cellsU_at L (j / 6) hq (j % 6) hr, show j / 6 * 6 + j % 6 = j by omega, hj, show off + j / 6 * 6 + j % 6 = off + j by omega] at h1
  have hadd : (⟨b, off, none⟩ : Addr).add j = ⟨b, off + j, none⟩ := by unfold Addr.add; split <;> simp_all
  rw [hadd]; exact h1
set_option maxHeartbeats 1000000 in
set_option maxRecDepth 100000 in
theorem clone_any (a : Addr) (cap : Nat) (L : List UserS) (w : World) (hF : InU w (.slice (some a) L.length cap) L) (hn : L.length ≤ 1000) :
    Calls Tryz.prog 201 #[.slice (some a) L.length cap] w fun e w' => ∃ v, e = .returned v ∧ OwnU w' w.heap.size v L ∧ Below w.heap.size w w' := by
  obtain ⟨i0, hi, hz0, hz1, hz4⟩ := info_parts info33
  have HF := Lib.hid hF
  have HN := Lib.hid hn
  have hne : ∀ W : World, (Sem.run Tryz.prog (binOp BinOp.eql 44 (.slice (some a) L.length cap) (.slice none 0 0)) W) = .ok (.bool false) W := fun W => rfl
  clear hF hn
  go_enter Tryz.func201, Tryz.ntmps201
  go_wp2_with (at_builtin; refine wpList_append_own _ rfl _ _ 44 rfl w.heap.size 47 i0 (.agg (userC zeroU)) 6 80 Tryz.underlying44 hi hz0 hz1 hz4 rfl (by decide) _ _ _ rfl (World.ownsRow_made _ #[] 0 (Nat.le_refl _) (by unfold maxLen; omega) rfl) a L.length cap (cellsU L) rfl (cellsU_len L) (fun j u hj => inU_cells (HF.out.below ((Below.refl _ _).alloc (Nat.le_refl _) _)) j u hj) (cells_one L) (by unfold maxLen; have := HN.out; omega) (by have := HN.out; omega) (by simp) ?_; intro v' w6 hown' hgrow _)
  have HO : Hid (OwnU w6 w.heap.size v' L) := Lib.hid (by unfold OwnU; rw [Nat.zero_add, List.nil_append] at hown'; exact hown')
  have HB := Lib.hid (below_grown ((Below.refl w.heap.size w).alloc (Nat.le_refl _) _) (Nat.le_refl _) hgrow (fun k hk => Nat.le_of_eq (Option.some.inj hk)))
  clear hown' hgrow
  go_wp2
  go_ret
  exact ⟨v', rfl, HO.out, HB.out⟩
def passU (p : ByteArray) (u : UserS) : UserS := ⟨u.name, p, u.id, u.group, u.home, u.shell⟩
theorem cellsU_set (p : ByteArray) : ∀ (L : List UserS) (k : Nat) (hk : k < L.length), cellsU (L.set k (passU p L[k])) = (cellsU L).set (k * 6 + 1) (.string p)
  | [], k, hk => absurd hk (Nat.not_lt_zero k)
  | u :: L, 0, _ => by
    rw [List.set_cons_zero, cellsU_cons, cellsU_cons]
    rfl
  | u :: L, k + 1, hk => by
    rw [List.set_cons_succ, cellsU_cons, cellsU_cons]
    have ih := cellsU_set p L k (by simpa using hk)
    rw [List.getElem_cons_succ, ih, List.set_append_right _ _ (by rw [userC_len]; omega), userC_len, show (k + 1) * 6 + 1 - 6 = k * 6 + 1 by omega]
/-- What Change tells. -/
def ChangeP (x p : ByteArray) (L : List UserS) (w : World) (e : Ending) (w' : World) : Prop :=
  Below w.heap.size w w' ∧ ((∃ k : Nat, ∃ h : k < L.length, isName x L[k] = true ∧ (∀ j (hj : j < k), isName x (L[j]'(by omega)) = false) ∧ ∃ v, e = .returned (.tuple #[v, .bool true]) ∧ OwnU w' w.heap.size v (L.set k (passU p L[k]))) ∨
    ((∀ f ∈ L, isName x f = false) ∧ e = .returned (.tuple #[.slice none 0 0, .bool false])))
set_option maxHeartbeats 2000000 in
set_option maxRecDepth 100000 in
theorem change_any (v : Value) (L : List UserS) (x p : ByteArray) (w : World) (hF : InU w v L) (hn : L.length ≤ 1000) :
    Calls Tryz.prog 175 #[v, .string x, .string p] w (ChangeP x p L w) := by
  obtain ⟨a, cap, rfl, hc⟩ := hF
  have HF : Hid (InU w (.slice a L.length cap) L) := Lib.hid ⟨a, cap, rfl, hc⟩
  clear hc
  have HA := Lib.hid (at_any _ L x w HF.out (by omega))
  have HN := Lib.hid hn
  clear hn
  go_enter Tryz.func175, Tryz.ntmps175
  go_wp2_with fail
  refine HA.out.mono ?_
  rintro e w1 ⟨rfl, hb⟩
  have HB1 := Lib.hid hb
  clear hb
  rcases findU_cases (isName x) L with ⟨h1, h2⟩ | ⟨k, hk, h1, h2, h3⟩
  · rw [h1]
    have H2 := Lib.hid h2
    clear h1 h2
    go_wp2
    exact bodyPost_ret (v := .tuple #[.slice none 0 0, .bool false]) (by simp [results, Tryz.results78, go_sem]) rfl ⟨HB1.out, .inr ⟨H2.out, rfl⟩⟩
  · rw [h3]
    clear h3
    have hk1 : (k : Int) < L.length := by omega
    have hk0 : (0 : Int) ≤ k := by omega
    obtain ⟨b, off, rfl, hu⟩ := HF.out.uc HB1.out hk
    have HKK := Lib.hid (show ∃ h : k < L.length, isName x L[k] = true ∧ ∀ j (hj : j < k), isName x (L[j]'(by omega)) = false from ⟨hk, h1, h2⟩)
    clear h1 h2 hu
    have HCL := Lib.hid (clone_any _ cap L w1 (HF.out.below HB1.out) HN.out)
    go_wp2_with fail
    refine HCL.out.mono ?_
    rintro e w2 ⟨v2, rfl, ho, hb⟩
    have HB2 := Lib.hid (HB1.out.trans (hb.mono HB1.out.size))
    have hcell : ∀ g : Nat, v2.ownBlock = some g → ∀ (j : Nat) (u : Value), (cellsU L)[j]? = some u → w2.cell? ((⟨g, 0, none⟩ : Addr).add j) = some u := fun g hg => ho.cells hg
    rcases ho.2 with ⟨_, h0⟩ | ⟨g, c2, cur, rfl, hg0, hg, hcap, _, hcs, _⟩
    · omega
    · have hst := ho.stored (k * 6 + 1) (.string p)
      have hpos : (cellsU L)[k * 6 + 1]? = some (.string L[k].pass) := by rw [cellsU_at L k hk 1 (by omega)]; rfl
      have hce : w2.cell? ⟨g, k * 6 + 1, none⟩ = some (.string L[k].pass) := by
        have := hcell g rfl (k * 6 + 1) _ hpos
        have hadd : (⟨g, 0, none⟩ : Addr).add (k * 6 + 1) = ⟨g, k * 6 + 1, none⟩ := by unfold Addr.add; split <;> simp_all
        rwa [hadd] at this
      have hfr : w2.frozen? ⟨g, k * 6 + 1, none⟩ = false := frozen_of_row _ _ _ _ _ hg
      have HO : Hid (OwnU (w2.setCell ⟨g, k * 6 + 1, none⟩ (.string p)) w.heap.size (.slice (some ⟨g, 0, none⟩) L.length c2) (L.set k (passU p L[k]))) := Lib.hid (by
        unfold OwnU
        rw [List.length_set, cellsU_set]
        obtain ⟨q1, q2⟩ := hst.1
        refine ⟨q1, ?_⟩
        rcases q2 with ⟨q, _⟩ | ⟨g', cap', cur', q, hB, rest⟩
        · simp at q
        · exact .inr ⟨g', cap', cur', q, Nat.le_trans HB1.out.size hB, rest⟩)
      have HBS := Lib.hid (HB2.out.setCell (p := ⟨g, k * 6 + 1, none⟩) (Nat.le_trans HB1.out.size hg0) (.string p))
      generalize L[k].pass = oldp at *
      clear hst hpos hcell ho hb hg hcap hcs
      go_wp2
      refine bodyPost_ret (v := .tuple #[.slice (some ⟨g, 0, none⟩) L.length c2, .bool true]) (by simp [results, Tryz.results78, go_sem]) rfl ⟨HBS.out, .inl ?_⟩
      obtain ⟨h, h1, h2⟩ := HKK.out
      exact ⟨k, h, h1, h2, _, rfl, HO.out⟩
end Go.Proofs.Pw
/- The reference's Same. -/
namespace Go.Proofs.Pw
open Go.RowKit

theorem bne_dec (a b : Int) : (a != b) = !decide (a = b) := by
  by_cases h : a = b
  · simp [h]
  · rw [decide_eq_false h]; simpa using h
theorem bf_and (f g : UserS) : ((f.name.toList == g.name.toList) && ((f.pass.toList == g.pass.toList) && ((f.id == g.id) && ((f.group == g.group) && ((f.home.toList == g.home.toList) && (f.shell.toList == g.shell.toList)))))) = decide (f = g) := by
  rw [eq_text, eq_text, eq_text, eq_text, Bool.eq_iff_iff]
  obtain ⟨a1, a2, a3, a4, a5, a6⟩ := f
  obtain ⟨b1, b2, b3, b4, b5, b6⟩ := g
  simp
theorem eq_run (f g : UserS) (W : World) : (Op.equalIn 10000 47 (.agg (userC f)) (.agg (userC g))).run Tryz.prog W = .ok (decide (f = g)) W := by
  rw [run_equalIn_agg W 9999 47 _ _ (by simp only [Program.fieldsOf, Tryz.underlying47]) (by kernel_rfl)]
  rw [← bf_and]
  simp [Program.fieldsOf, Tryz.underlying47, Op.eqFields, userC, go_sem]
  by_cases h1 : f.name.toList = g.name.toList
  · by_cases h2 : f.pass.toList = g.pass.toList
    · by_cases h3 : f.id = g.id
      · by_cases h4 : f.group = g.group
        · by_cases h5 : f.home.toList = g.home.toList
          · by_cases h6 : f.shell.toList = g.shell.toList
            · simp [h1, h2, h3, h4, h5, h6]
            · simp [h1, h2, h3, h4, h5, h6]
          · simp [h1, h2, h3, h4, h5]
        · simp [h1, h2, h3, h4]
      · simp [h1, h2, h3]
    · simp [h1, h2]
  · simp [h1]
theorem guard33 : Tryz.prog.eqGuardType Tryz.prog.depth 47 = false := by kernel_rfl
theorem eq_users (f g : UserS) (W : World) {q : Bool} (hq : decide (f = g) = q) : (Op.equalIn 10000 47 (.agg #[.string f.name, .string f.pass, .int .i64 f.id, .int .i64 f.group, .string f.home, .string f.shell]) (.agg #[.string g.name, .string g.pass, .int .i64 g.id, .int .i64 g.group, .string g.home, .string g.shell])).run Tryz.prog W = .ok q W := by
  rw [← hq]; exact eq_run f g W
set_option maxHeartbeats 2000000 in
set_option maxRecDepth 100000 in
theorem same_any (v1 v2 : Value) (A B : List UserS) (w : World) (h1 : InU w v1 A) (h2 : InU w v2 B) (hA : A.length ≤ 140737488355328) (hB : B.length ≤ 140737488355328) :
    Calls Tryz.prog 23 #[v1, v2] w fun e w' => e = .returned (.bool (decide (A = B))) ∧ Below w.heap.size w w' := by
  obtain ⟨a1, c1, rfl, k1⟩ := h1
  obtain ⟨a2, c2, rfl, k2⟩ := h2
  have H1 : Hid (InU w (.slice a1 A.length c1) A) := Lib.hid ⟨a1, c1, rfl, k1⟩
  have H2 : Hid (InU w (.slice a2 B.length c2) B) := Lib.hid ⟨a2, c2, rfl, k2⟩
  clear k1 k2
  by_cases hl : A.length = B.length
  · have hne : ((A.length : Int) != (B.length : Int)) = false := by rw [hl]; simp
    have HL := Lib.hid hl
    have hA1 : (A.length : Int) ≤ 140737488355328 := by omega
    clear hl hA hB
    go_enter Tryz.func23, Tryz.ntmps23
    go_wp2
    go_loopw [5] (fun v5 wr => ∃ k : Nat, k ≤ A.length ∧ v5 = .int .i64 k ∧ Hid (Below w.heap.size w wr ∧ A.take k = B.take k)) (fun v5 _ => A.length - (intOf v5).toNat)
    case atStart => exact ⟨0, Nat.zero_le _, rfl, Lib.hid ⟨Below.refl _ _, rfl⟩⟩
    case round =>
      obtain ⟨k, hk, rfl, HH⟩ := hrel
      by_cases hlt : k < A.length
      · have hlt1 : (k : Int) < A.length := by omega
        have hltB : k < B.length := by rw [← HL.out]; exact hlt
        have hlt2 : (k : Int) < B.length := by omega
        obtain ⟨b1, o1, rfl, hu1⟩ := H1.out.uc HH.out.1 hlt
        obtain ⟨b2, o2, rfl, hu2⟩ := H2.out.uc HH.out.1 hltB
        have HT1 := Lib.hid (List.take_succ_eq_append_getElem hlt)
        have HT2 := Lib.hid (List.take_succ_eq_append_getElem hltB)
        have HNX : Hid (A[k] = B[k] → A.take (k + 1) = B.take (k + 1)) := Lib.hid (fun h => by rw [HT1.out, HT2.out, HH.out.2, h])
        have HNE : Hid (A[k] ≠ B[k] → A ≠ B) := Lib.hid (fun h e => h (by subst e; rfl))
        generalize A[k] = f1 at *
        generalize B[k] = f2 at *
        obtain ⟨g0, g1, g2, g3, g4, g5⟩ := hu1
        obtain ⟨i0, i1, i2, i3, i4, i5⟩ := hu2
        clear hltB
        have hgd := guard33
        by_cases he : f1 = f2
        · have heq : ∀ W, _ := fun W => eq_users f1 f2 W (decide_eq_true he)
          have HN2 := Lib.hid (HNX.out he)
          clear he HNX HNE
          go_upto_region 6 with fail
          go_quiet (fail)
          go_wp2
          go_roundw
          case rel => exact ⟨k + 1, by omega, by go_num, Lib.hid ⟨drewN_below HH.out.1 _, HN2.out⟩⟩
          case measure => simp [intOf]; omega
        · have heq : ∀ W, _ := fun W => eq_users f1 f2 W (decide_eq_false he)
          have HR : Hid (decide (A = B) = false) := Lib.hid (decide_eq_false (HNE.out he))
          clear he HNX HNE
          go_upto_region 6 with fail
          go_quiet (fail)
          go_wp2
          go_ret
          exact ⟨by rw [HR.out]; rfl, drewN_below HH.out.1 _⟩
      · have hlt1 : ¬ (k : Int) < A.length := by omega
        have HR : Hid (decide (A = B) = true) := Lib.hid (decide_eq_true (by
          have h := HH.out.2
          rw [List.take_of_length_le (by omega), List.take_of_length_le (by have := HL.out; omega)] at h
          exact h))
        go_wp2
        go_ret
        exact ⟨by rw [HR.out]; rfl, HH.out.1⟩
  · have hne : ((A.length : Int) != (B.length : Int)) = true := by simp; omega
    have HR : Hid (decide (A = B) = false) := Lib.hid (decide_eq_false fun e => hl (by rw [e]))
    clear hl hA hB
    go_enter Tryz.func23, Tryz.ntmps23
    go_wp2
    go_ret
    exact ⟨by rw [HR.out]; rfl, Below.refl _ _⟩
end Go.Proofs.Pw
/- The document's Find and Of. -/
namespace Go.Proofs.Pw
open Go.RowKit

theorem leave15 {T : Array Value} {W : World} (n0 : Nat) {f : UserS} {b : Bool} (hT4 : T[4]? = some (.pointer (some ⟨n0, 0, none⟩))) (hT5 : T[5]? = some (.bool b))
    (hres : W.heap[n0]? = some (.cells (userC f) 47 (0, 0))) {R : Ending → World → Prop} (hR : R (.returned (.tuple #[.agg (userC f), .bool b])) W) :
    bodyPost Tryz.prog Tryz.f18 R Exit.ret { tmps := T, defers := [] } W := by
  have c0 : W.cell? ⟨n0, 0, none⟩ = some (.string f.name) := heap_cell hres 0
  have c1 : W.cell? ⟨n0, 1, none⟩ = some (.string f.pass) := heap_cell hres 1
  have c2 : W.cell? ⟨n0, 2, none⟩ = some (.int .i64 f.id) := heap_cell hres 2
  have c3 : W.cell? ⟨n0, 3, none⟩ = some (.int .i64 f.group) := heap_cell hres 3
  have c4 : W.cell? ⟨n0, 4, none⟩ = some (.string f.home) := heap_cell hres 4
  have c5 : W.cell? ⟨n0, 5, none⟩ = some (.string f.shell) := heap_cell hres 5
  exact bodyPost_ret (v := .tuple #[.agg (userC f), .bool b]) (by simp [results, Tryz.results18, go_sem, hT4, hT5, c0, c1, c2, c3, c4, c5, userC]) rfl hR
theorem leave17 {T : Array Value} {W : World} (n0 : Nat) {f : UserS} {b : Bool} (hT4 : T[4]? = some (.pointer (some ⟨n0, 0, none⟩))) (hT5 : T[5]? = some (.bool b))
    (hres : W.heap[n0]? = some (.cells (userC f) 47 (0, 0))) {R : Ending → World → Prop} (hR : R (.returned (.tuple #[.agg (userC f), .bool b])) W) :
    bodyPost Tryz.prog Tryz.f62 R Exit.ret { tmps := T, defers := [] } W := by
  have c0 : W.cell? ⟨n0, 0, none⟩ = some (.string f.name) := heap_cell hres 0
  have c1 : W.cell? ⟨n0, 1, none⟩ = some (.string f.pass) := heap_cell hres 1
  have c2 : W.cell? ⟨n0, 2, none⟩ = some (.int .i64 f.id) := heap_cell hres 2
  have c3 : W.cell? ⟨n0, 3, none⟩ = some (.int .i64 f.group) := heap_cell hres 3
  have c4 : W.cell? ⟨n0, 4, none⟩ = some (.string f.home) := heap_cell hres 4
  have c5 : W.cell? ⟨n0, 5, none⟩ = some (.string f.shell) := heap_cell hres 5
  exact bodyPost_ret (v := .tuple #[.agg (userC f), .bool b]) (by simp [results, Tryz.results62, go_sem, hT4, hT5, c0, c1, c2, c3, c4, c5, userC]) rfl hR
set_option maxHeartbeats 2000000 in
set_option maxRecDepth 100000 in
theorem rfind_any (v : Value) (fs : List UserS) (x : ByteArray) (w : World) (hF : InU w v fs) (hn : fs.length ≤ 140737488355328) :
    Calls Tryz.prog 18 #[v, .string x] w (FoundP (isName x) fs w) := by
  obtain ⟨a, cap, rfl, hc⟩ := hF
  have HF : Hid (InU w (.slice a fs.length cap) fs) := Lib.hid ⟨a, cap, rfl, hc⟩
  clear hc
  have hn1 : (fs.length : Int) ≤ 140737488355328 := by omega
  have HN := Lib.hid hn
  clear hn
  go_enter Tryz.func18, Tryz.ntmps18
  go_wp2
  go_loopw [6] (fun v6 wr => ∃ k : Nat, k ≤ fs.length ∧ v6 = .int .i64 k ∧ Hid (Below w.heap.size w wr ∧ wr.heap[w.heap.size]? = some (.cells (userC zeroU) 47 (0, 0)) ∧ ∀ j (hj : j < k) (hj2 : j < fs.length), isName x fs[j] = false)) (fun v6 _ => fs.length - (intOf v6).toNat)
  case atStart => exact ⟨0, Nat.zero_le _, rfl, Lib.hid ⟨(Below.refl w.heap.size w).alloc (Nat.le_refl _) (.cells (userC zeroU) 47), at_new w (.cells (userC zeroU) 47), fun j hj => by omega⟩⟩
  case round =>
    obtain ⟨k, hk, rfl, HH⟩ := hrel
    by_cases hlt : k < fs.length
    · have hlt1 : (k : Int) < fs.length := by omega
      obtain ⟨b, off, rfl, hu⟩ := HF.out.uc HH.out.1 hlt
      have HKK : Hid (∃ h : k < fs.length, fs[k] = fs[k] ∧ (isName x fs[k] = true → FoundP (isName x) fs w (.returned (.tuple #[.agg (userC fs[k]), .bool true])) (sixW wr w.heap.size (.string fs[k].name) (.string fs[k].pass) (.int .i64 fs[k].id) (.int .i64 fs[k].group) (.string fs[k].home) (.string fs[k].shell)))) :=
        Lib.hid ⟨hlt, rfl, fun h => ⟨sixW_below HH.out.1 (Nat.le_refl _) _ _ _ _ _ _, .inl ⟨k, hlt, h, fun j hj => HH.out.2.2 j hj (by omega), rfl⟩⟩⟩
      have HNX : Hid (isName x (fs[k]'hlt) = false → ∀ j (hj : j < k + 1) (hj2 : j < fs.length), isName x fs[j] = false) := Lib.hid fun h j hj hj2 => by
        by_cases he : j = k
        · subst he; exact h
        · exact HH.out.2.2 j (by omega) hj2
      have HKJ : Hid (isName x (fs[k]'hlt) = true → FoundP (isName x) fs w (.returned (.tuple #[.agg (userC (fs[k]'hlt)), .bool true])) (sixW wr w.heap.size (.string (fs[k]'hlt).name) (.string (fs[k]'hlt).pass) (.int .i64 (fs[k]'hlt).id) (.int .i64 (fs[k]'hlt).group) (.string (fs[k]'hlt).home) (.string (fs[k]'hlt).shell))) := Lib.hid HKK.out.2.2
      clear HKK
      generalize fs[k]'hlt = f at *
      obtain ⟨g0, g1, g2, g3, g4, g5⟩ := hu
      obtain ⟨⟨e0, e1, e2, e3, e4, e5⟩, ⟨z0, z1, z2, z3, z4, z5⟩⟩ := six_facts HH.out.2.1
      have he1 : (f.name.toList == x.toList) = isName x f := eq_text _ _
      cases hp : isName x f with
      | true =>
        rw [hp] at he1
        have HX := Lib.hid (HKJ.out hp)
        clear hp HKJ HNX
        go_wp2
        exact leave15 w.heap.size rfl rfl (sixW_at HH.out.2.1 f) HX.out
      | false =>
        rw [hp] at he1
        have HX := Lib.hid (HNX.out hp)
        clear hp HKJ HNX e0 e1 e2 e3 e4 e5 z0 z1 z2 z3 z4 z5
        go_wp2
        go_roundw
        case rel => exact ⟨k + 1, by omega, by go_num, Lib.hid ⟨HH.out.1, HH.out.2.1, HX.out⟩⟩
        case measure => simp [intOf]; omega
    · have hlt1 : ¬ (k : Int) < fs.length := by omega
      have HX : Hid (∀ f ∈ fs, isName x f = false) := Lib.hid fun f hf => by
        obtain ⟨j, hj, rfl⟩ := List.getElem_of_mem hf
        exact HH.out.2.2 j (by omega) hj
      obtain ⟨⟨e0, e1, e2, e3, e4, e5⟩, ⟨z0, z1, z2, z3, z4, z5⟩⟩ := six_facts HH.out.2.1
      go_wp2
      exact leave15 w.heap.size rfl rfl (sixW_at HH.out.2.1 zeroU) ⟨sixW_below HH.out.1 (Nat.le_refl _) _ _ _ _ _ _, .inr ⟨HX.out, rfl⟩⟩
set_option maxHeartbeats 2000000 in
set_option maxRecDepth 100000 in
theorem rof_any (v : Value) (fs : List UserS) (x : Int) (w : World) (hF : InU w v fs) (hn : fs.length ≤ 140737488355328) :
    Calls Tryz.prog 62 #[v, .int .i64 x] w (FoundP (isId x) fs w) := by
  obtain ⟨a, cap, rfl, hc⟩ := hF
  have HF : Hid (InU w (.slice a fs.length cap) fs) := Lib.hid ⟨a, cap, rfl, hc⟩
  clear hc
  have hn1 : (fs.length : Int) ≤ 140737488355328 := by omega
  have HN := Lib.hid hn
  clear hn
  go_enter Tryz.func62, Tryz.ntmps62
  go_wp2
  go_loopw [6] (fun v6 wr => ∃ k : Nat, k ≤ fs.length ∧ v6 = .int .i64 k ∧ Hid (Below w.heap.size w wr ∧ wr.heap[w.heap.size]? = some (.cells (userC zeroU) 47 (0, 0)) ∧ ∀ j (hj : j < k) (hj2 : j < fs.length), isId x fs[j] = false)) (fun v6 _ => fs.length - (intOf v6).toNat)
  case atStart => exact ⟨0, Nat.zero_le _, rfl, Lib.hid ⟨(Below.refl w.heap.size w).alloc (Nat.le_refl _) (.cells (userC zeroU) 47), at_new w (.cells (userC zeroU) 47), fun j hj => by omega⟩⟩
  case round =>
    obtain ⟨k, hk, rfl, HH⟩ := hrel
    by_cases hlt : k < fs.length
    · have hlt1 : (k : Int) < fs.length := by omega
      obtain ⟨b, off, rfl, hu⟩ := HF.out.uc HH.out.1 hlt
      have HKK : Hid (∃ h : k < fs.length, fs[k] = fs[k] ∧ (isId x fs[k] = true → FoundP (isId x) fs w (.returned (.tuple #[.agg (userC fs[k]), .bool true])) (sixW wr w.heap.size (.string fs[k].name) (.string fs[k].pass) (.int .i64 fs[k].id) (.int .i64 fs[k].group) (.string fs[k].home) (.string fs[k].shell)))) :=
        Lib.hid ⟨hlt, rfl, fun h => ⟨sixW_below HH.out.1 (Nat.le_refl _) _ _ _ _ _ _, .inl ⟨k, hlt, h, fun j hj => HH.out.2.2 j hj (by omega), rfl⟩⟩⟩
      have HNX : Hid (isId x (fs[k]'hlt) = false → ∀ j (hj : j < k + 1) (hj2 : j < fs.length), isId x fs[j] = false) := Lib.hid fun h j hj hj2 => by
        by_cases he : j = k
        · subst he; exact h
        · exact HH.out.2.2 j (by omega) hj2
      have HKJ : Hid (isId x (fs[k]'hlt) = true → FoundP (isId x) fs w (.returned (.tuple #[.agg (userC (fs[k]'hlt)), .bool true])) (sixW wr w.heap.size (.string (fs[k]'hlt).name) (.string (fs[k]'hlt).pass) (.int .i64 (fs[k]'hlt).id) (.int .i64 (fs[k]'hlt).group) (.string (fs[k]'hlt).home) (.string (fs[k]'hlt).shell))) := Lib.hid HKK.out.2.2
      clear HKK
      generalize fs[k]'hlt = f at *
      obtain ⟨g0, g1, g2, g3, g4, g5⟩ := hu
      obtain ⟨⟨e0, e1, e2, e3, e4, e5⟩, ⟨z0, z1, z2, z3, z4, z5⟩⟩ := six_facts HH.out.2.1
      have he1 : (f.id == x) = isId x f := by
        unfold isId
        by_cases h : f.id = x
        · rw [decide_eq_true h, h]; simp
        · rw [decide_eq_false h]; simpa using h
      cases hp : isId x f with
      | true =>
        rw [hp] at he1
        have HX := Lib.hid (HKJ.out hp)
        clear hp HKJ HNX
        go_wp2
        exact leave17 w.heap.size rfl rfl (sixW_at HH.out.2.1 f) HX.out
      | false =>
        rw [hp] at he1
        have HX := Lib.hid (HNX.out hp)
        clear hp HKJ HNX e0 e1 e2 e3 e4 e5 z0 z1 z2 z3 z4 z5
        go_wp2
        go_roundw
        case rel => exact ⟨k + 1, by omega, by go_num, Lib.hid ⟨HH.out.1, HH.out.2.1, HX.out⟩⟩
        case measure => simp [intOf]; omega
    · have hlt1 : ¬ (k : Int) < fs.length := by omega
      have HX : Hid (∀ f ∈ fs, isId x f = false) := Lib.hid fun f hf => by
        obtain ⟨j, hj, rfl⟩ := List.getElem_of_mem hf
        exact HH.out.2.2 j (by omega) hj
      obtain ⟨⟨e0, e1, e2, e3, e4, e5⟩, ⟨z0, z1, z2, z3, z4, z5⟩⟩ := six_facts HH.out.2.1
      go_wp2
      exact leave17 w.heap.size rfl rfl (sixW_at HH.out.2.1 zeroU) ⟨sixW_below HH.out.1 (Nat.le_refl _) _ _ _ _ _ _, .inr ⟨HX.out, rfl⟩⟩
end Go.Proofs.Pw
/- The document's Change; stores in an own row of users. -/
namespace Go.Proofs.Pw
open Go.RowKit

theorem add_at (g o : Nat) : (⟨g, 0, none⟩ : Addr).add o = ⟨g, o, none⟩ := by unfold Addr.add; split <;> simp_all
theorem own_pass {w : World} {B : Nat} {a : Option Addr} {c : Nat} {L : List UserS} (ho : OwnU w B (.slice a L.length c) L) {k : Nat} (hk : k < L.length) :
    ∃ g, a = some ⟨g, 0, none⟩ ∧ B ≤ g ∧ w.cell? ⟨g, k * 6 + 1, none⟩ = some (.string L[k].pass) ∧ w.frozen? ⟨g, k * 6 + 1, none⟩ = false ∧
      ∀ p, OwnU (w.setCell ⟨g, k * 6 + 1, none⟩ (.string p)) B (.slice a L.length c) (L.set k (passU p L[k])) := by
  have hpos : (cellsU L)[k * 6 + 1]? = some (.string L[k].pass) := by rw [cellsU_at L k hk 1 (by omega)]; rfl
  have hcell : ∀ g : Nat, (Value.slice a L.length c).ownBlock = some g → ∀ (j : Nat) (u : Value), (cellsU L)[j]? = some u → w.cell? ((⟨g, 0, none⟩ : Addr).add j) = some u := fun g hg => ho.cells hg
  rcases ho.2 with ⟨_, h0⟩ | ⟨g, c2, cur, he, hg0, hg, hcap, _, hcs, _⟩
  · omega
  · obtain ⟨rfl, rfl⟩ : a = some ⟨g, 0, none⟩ ∧ c = c2 := by simp at he; exact he
    refine ⟨g, rfl, hg0, ?_, frozen_of_row _ _ _ _ _ hg, fun p => ?_⟩
    · have := hcell g rfl (k * 6 + 1) _ hpos
      rwa [add_at] at this
    · unfold OwnU
      rw [List.length_set, cellsU_set]
      have ho' : w.ownsRow B 47 6 (.slice (some ⟨g, 0, none⟩) L.length c) L.length (cellsU L) := ho
      exact (ho'.stored (k * 6 + 1) (.string p)).1
def sixL (L : List Value) (o : Nat) (u : UserS) : List Value := (((((L.set o (.string u.name)).set (o + 1) (.string u.pass)).set (o + 2) (.int .i64 u.id)).set (o + 3) (.int .i64 u.group)).set (o + 4) (.string u.home)).set (o + 5) (.string u.shell)
theorem sixL_six (f : UserS) (R : List Value) (u : UserS) : sixL ((userC f).toList ++ R) 0 u = (userC u).toList ++ R := by simp [sixL, userC]
theorem sixL_app : ∀ (P R : List Value) (o : Nat) (u : UserS), sixL (P ++ R) (P.length + o) u = P ++ sixL R o u := by
  intro P R o u
  unfold sixL
  simp only [Nat.add_assoc, List.set_append_right _ _ (Nat.le_add_right _ _), Nat.add_sub_cancel_left]
theorem cellsU_six (u : UserS) : ∀ (L : List UserS) (k : Nat) (_ : k < L.length), cellsU (L.set k u) = sixL (cellsU L) (k * 6) u
  | [], k, hk => absurd hk (Nat.not_lt_zero k)
  | f :: L, 0, _ => by
    rw [List.set_cons_zero, cellsU_cons, cellsU_cons, Nat.zero_mul, sixL_six]
  | f :: L, k + 1, hk => by
    rw [List.set_cons_succ, cellsU_cons, cellsU_cons]
    have ih := cellsU_six u L k (by simpa using hk)
    rw [ih, show (k + 1) * 6 = (userC f).toList.length + k * 6 by rw [userC_len]; omega, sixL_app]
/-- The world behind six stores at a place of a block. -/
def sixAt (w : World) (g o : Nat) (u : UserS) : World := (((((w.setCell ⟨g, o, none⟩ (.string u.name)).setCell ⟨g, o + 1, none⟩ (.string u.pass)).setCell ⟨g, o + 2, none⟩ (.int .i64 u.id)).setCell ⟨g, o + 3, none⟩ (.int .i64 u.group)).setCell ⟨g, o + 4, none⟩ (.string u.home)).setCell ⟨g, o + 5, none⟩ (.string u.shell)
theorem sixAt_below {B : Nat} {w W : World} (h : Below B w W) {g : Nat} (hg : B ≤ g) (o : Nat) (u : UserS) : Below B w (sixAt W g o u) := by
  unfold sixAt
  exact (((((h.setCell hg _).setCell hg _).setCell hg _).setCell hg _).setCell hg _).setCell hg _
/-- A user stored in an own row. -/
theorem own_user {w : World} {B : Nat} {a : Option Addr} {c : Nat} {L : List UserS} (ho : OwnU w B (.slice a L.length c) L) {k : Nat} (hk : k < L.length) :
    ∃ g, a = some ⟨g, 0, none⟩ ∧ B ≤ g ∧ (w.cell? ⟨g, k * 6, none⟩ = some (.string L[k].name) ∧ w.cell? ⟨g, k * 6 + 1, none⟩ = some (.string L[k].pass) ∧ w.cell? ⟨g, k * 6 + 2, none⟩ = some (.int .i64 L[k].id) ∧ w.cell? ⟨g, k * 6 + 3, none⟩ = some (.int .i64 L[k].group) ∧ w.cell? ⟨g, k * 6 + 4, none⟩ = some (.string L[k].home) ∧ w.cell? ⟨g, k * 6 + 5, none⟩ = some (.string L[k].shell)) ∧
      (w.frozen? ⟨g, k * 6, none⟩ = false ∧ w.frozen? ⟨g, k * 6 + 1, none⟩ = false ∧ w.frozen? ⟨g, k * 6 + 2, none⟩ = false ∧ w.frozen? ⟨g, k * 6 + 3, none⟩ = false ∧ w.frozen? ⟨g, k * 6 + 4, none⟩ = false ∧ w.frozen? ⟨g, k * 6 + 5, none⟩ = false) ∧
      ∀ u, OwnU (sixAt w g (k * 6) u) B (.slice a L.length c) (L.set k u) := by
  have hcell : ∀ g : Nat, (Value.slice a L.length c).ownBlock = some g → ∀ (j : Nat) (u : Value), (cellsU L)[j]? = some u → w.cell? ((⟨g, 0, none⟩ : Addr).add j) = some u := fun g hg => ho.cells hg
  have hlen := cellsU_len L
  rcases ho.2 with ⟨_, h0⟩ | ⟨g, c2, cur, he, hg0, hg, hcap, _, hcs, _⟩
  · omega
  · obtain ⟨rfl, rfl⟩ : a = some ⟨g, 0, none⟩ ∧ c = c2 := by simp at he; exact he
    have hc : ∀ i, i < 6 → w.cell? ⟨g, k * 6 + i, none⟩ = (userC L[k])[i]? := by
      intro i hi
      have h1 : (userC L[k])[i]? = some ((userC L[k])[i]'(by simp [userC]; omega)) := Array.getElem?_eq_getElem (by simp [userC]; omega)
      rw [h1]
      have := hcell g rfl (k * 6 + i) _ (by rw [cellsU_at L k hk i hi]; exact h1)
      rwa [add_at] at this
    have hf : ∀ i, w.frozen? ⟨g, i, none⟩ = false := fun i => frozen_of_row _ _ _ _ _ hg
    refine ⟨g, rfl, hg0, ⟨hc 0 (by omega), hc 1 (by omega), hc 2 (by omega), hc 3 (by omega), hc 4 (by omega), hc 5 (by omega)⟩, ⟨hf _, hf _, hf _, hf _, hf _, hf _⟩, fun u => ?_⟩
    unfold OwnU
    rw [List.length_set, cellsU_six u L k hk]
    have ho' : w.ownsRow B 47 6 (.slice (some ⟨g, 0, none⟩) L.length c) L.length (cellsU L) := ho
    have s1 := (ho'.stored (k * 6) (.string u.name)).1
    have s2 := (s1.stored (k * 6 + 1) (.string u.pass)).1
    have s3 := (s2.stored (k * 6 + 2) (.int .i64 u.id)).1
    have s4 := (s3.stored (k * 6 + 3) (.int .i64 u.group)).1
    have s5 := (s4.stored (k * 6 + 4) (.string u.home)).1
    exact (s5.stored (k * 6 + 5) (.string u.shell)).1
end Go.Proofs.Pw
/- The document's Name and number. -/
namespace Go.Proofs.Pw
open Go.RowKit

theorem get_at (s : ByteArray) (i : Nat) (h : i < s.size) : s.data.toList[i]? = some s[i] := by
  rw [List.getElem?_eq_getElem (by rw [sz]; exact h)]; rfl
/-- A byte at a place, as the document asks for it. -/
def nmAt (k : Nat) (c : UInt8) : Bool := isLow c || (decide (k ≠ 0) && isDig c)
def NameAt (s : ByteArray) (k : Nat) : Prop := ∀ j (h : j < s.size), j < k → nmAt j s[j] = true
theorem name_all {s : ByteArray} (h0 : 1 ≤ s.size) (h8 : s.size ≤ 8) (h : NameAt s s.size) : nameB s.data.toList = true := by
  unfold nameB
  have h1 := h 0 (by omega) (by omega)
  have hh : headLow s.data.toList = true := by
    rw [head_data (by omega)]
    simpa [nmAt] using h1
  have ha : s.data.toList.all isAln = true := by
    refine List.all_eq_true.2 fun x hx => ?_
    obtain ⟨j, hj, rfl⟩ := List.getElem_of_mem hx
    rw [sz] at hj
    have h2 := h j hj (by omega)
    have h3 : s.data.toList[j]'(by rw [sz]; exact hj) = s[j] := rfl
    rw [h3]
    unfold nmAt at h2
    unfold isAln
    cases hl : isLow s[j] with
    | true => rfl
    | false => rw [hl] at h2; simp at h2; simp [h2.2]
  rw [hh, ha, sz]
  simpa using h8
theorem name_not {s : ByteArray} (h : s.size < 1 ∨ 8 < s.size ∨ ∃ k, ∃ h : k < s.size, nmAt k s[k] = false) : nameB s.data.toList = false := by
  cases hn : nameB s.data.toList with
  | false => rfl
  | true =>
    exfalso
    unfold nameB at hn
    simp only [Bool.and_eq_true, decide_eq_true_eq, sz] at hn
    obtain ⟨⟨h1, h2⟩, h3⟩ := hn
    rcases h with h | h | ⟨k, hk, h⟩
    · have : s.data.toList = [] := List.length_eq_zero_iff.1 (by rw [sz]; omega)
      rw [this] at h2; simp [headLow] at h2
    · omega
    · have hm : s[k] ∈ s.data.toList := List.mem_of_getElem? (get_at s k hk)
      have ha := List.all_eq_true.1 h3 _ hm
      unfold isAln at ha
      unfold nmAt at h
      by_cases hk0 : k = 0
      · subst hk0
        rw [head_data (by omega)] at h2
        rw [h2] at h; simp at h
      · cases hl : isLow s[k] with
        | true => rw [hl] at h; simp at h
        | false => rw [hl] at ha h; simp [hk0] at h ha; rw [h] at ha; cases ha
set_option maxHeartbeats 2000000 in
set_option maxRecDepth 100000 in
theorem rname_any (s : ByteArray) (w : World) (hs : s.size ≤ 140737488351232) : Calls Tryz.prog 106 #[.string s] w fun e w' => e = .returned (.bool (nameB s.data.toList)) ∧ w' = w := by
  by_cases h0 : s.size < 1
  · have h1 : (s.size : Int) < 1 := by omega
    rw [name_not (.inl h0)]
    clear h0 hs
    go_enter Tryz.func106, Tryz.ntmps106
    go_wp2
    go_ret
    exact ⟨rfl, rfl⟩
  · have h1 : ¬ (s.size : Int) < 1 := by omega
    by_cases h8 : 8 < s.size
    · have h2 : (8 : Int) < s.size := by omega
      rw [name_not (.inr (.inl h8))]
      clear h0 h8 hs
      go_enter Tryz.func106, Tryz.ntmps106
      go_wp2
      go_ret
      exact ⟨rfl, rfl⟩
    · have h2 : ¬ (8 : Int) < s.size := by omega
      have hs8 : (s.size : Int) ≤ 8 := by omega
      have HL := Lib.hid (And.intro h0 h8)
      clear h0 h8 hs
      go_enter Tryz.func106, Tryz.ntmps106
      go_wp2
      go_loopw [3, 4] (fun v3 v4 wr => ∃ k : Nat, k ≤ s.size ∧ v3 = .int .i64 k ∧ wr = w ∧ Hid (NameAt s k)) (fun v3 v4 _ => s.size - (intOf v3).toNat)
      case atStart => exact ⟨0, Nat.zero_le _, rfl, rfl, Lib.hid fun j _ h => by omega⟩
      case round =>
        obtain ⟨k, hk, rfl, rfl, HH⟩ := hrel
        by_cases hlt : k < s.size
        · have hlt1 : (k : Int) < s.size := by omega
          have HNX : Hid (nmAt k s[k] = true → NameAt s (k + 1)) := Lib.hid fun h j hj hjk => by
            by_cases he : j = k
            · subst he; exact h
            · exact HH.out j hj (by omega)
          have HNN : Hid (nmAt k s[k] = false → nameB s.data.toList = false) := Lib.hid fun h => name_not (.inr (.inr ⟨k, hlt, h⟩))
          have hc : (nmAt k s[k] = true ∧ ((97 : Int) ≤ (s[k].toNat : Int) ∧ (s[k].toNat : Int) ≤ 122)) ∨ (nmAt k s[k] = true ∧ ((97 : Int) ≤ (s[k].toNat : Int) → ¬ (s[k].toNat : Int) ≤ 122) ∧ k ≠ 0 ∧ ¬ (s[k].toNat : Int) < 48 ∧ ¬ (57 : Int) < (s[k].toNat : Int)) ∨
              (nmAt k s[k] = false ∧ ((97 : Int) ≤ (s[k].toNat : Int) → ¬ (s[k].toNat : Int) ≤ 122) ∧ (k ≠ 0 → ¬ (s[k].toNat : Int) < 48 → (57 : Int) < (s[k].toNat : Int))) := by
            unfold nmAt isLow isDig
            by_cases a1 : 97 ≤ s[k].toNat <;> by_cases a2 : s[k].toNat ≤ 122 <;> by_cases a3 : k = 0 <;> by_cases a4 : 48 ≤ s[k].toNat <;> by_cases a5 : s[k].toNat ≤ 57 <;> simp [a1, a2, a3, a4, a5] <;> omega
          generalize nmAt k s[k] = b at *
          rcases hc with ⟨hb, d1, d2⟩ | ⟨hb, d1, d3, d4, d5⟩ | ⟨hb, d1, d3⟩
          · subst hb
            have HX := Lib.hid (HNX.out rfl)
            clear HNX HNN
            go_wp2
            go_roundw
            case rel => exact ⟨k + 1, by omega, by go_num, trivial, HX⟩
            case measure => simp [intOf]; omega
          · subst hb
            have HX := Lib.hid (HNX.out rfl)
            have hk0 : ((k : Int) == 0) = false := by simp; omega
            have HK := Lib.hid d3
            clear HNX HNN d3
            by_cases e1 : (97 : Int) ≤ (s[k].toNat : Int)
            · exfalso; omega
            · clear d1
              go_wp2
              go_roundw
              case rel => exact ⟨k + 1, by omega, by go_num, trivial, HX⟩
              case measure => simp [intOf]; omega
          · subst hb
            have HX := Lib.hid (HNN.out rfl)
            clear HNX HNN
            by_cases hk0 : k = 0
            · subst hk0
              clear d3
              by_cases e1 : (97 : Int) ≤ (s[0].toNat : Int)
              · have d2 := d1 e1
                clear d1
                go_wp2
                go_ret
                exact ⟨by rw [HX.out]; rfl, rfl⟩
              · clear d1
                go_wp2
                go_ret
                exact ⟨by rw [HX.out]; rfl, rfl⟩
            · have hk1 : ((k : Int) == 0) = false := by simp; omega
              have d4 := d3 hk0
              clear d3 hk0
              by_cases e1 : (97 : Int) ≤ (s[k].toNat : Int)
              · have d2 := d1 e1
                have e3 : ¬ (s[k].toNat : Int) < 48 := by omega
                have e4 := d4 e3
                clear d1 d4
                go_wp2
                go_ret
                exact ⟨by rw [HX.out]; rfl, rfl⟩
              · clear d1
                by_cases e3 : (s[k].toNat : Int) < 48
                · clear d4
                  go_wp2
                  go_ret
                  exact ⟨by rw [HX.out]; rfl, rfl⟩
                · have e4 := d4 e3
                  clear d4
                  go_wp2
                  go_ret
                  exact ⟨by rw [HX.out]; rfl, rfl⟩
        · have hlt1 : ¬ (k : Int) < s.size := by omega
          have hkk : k = s.size := by omega
          have HX := Lib.hid (name_all (by have := HL.out; omega) (by have := HL.out; omega) (hkk ▸ HH.out))
          clear hkk hlt hk
          go_wp2
          go_ret
          exact ⟨by rw [HX.out]; rfl, rfl⟩
/-- The number of a word; -1: it is none. -/
def numZ (l : Bytes) : Int := if 1 ≤ l.length ∧ l.length ≤ 5 ∧ l.all isDig = true then (readD l : Int) else -1
theorem readD_snoc (l : Bytes) (c : UInt8) : readD (l ++ [c]) = 10 * readD l + (c.toNat - 48) := by unfold readD; rw [List.foldl_append]; rfl
theorem take_snoc (s : ByteArray) (k : Nat) (h : k < s.size) : s.data.toList.take (k + 1) = s.data.toList.take k ++ [s[k]] := by
  rw [List.take_succ_eq_append_getElem (by rw [sz]; exact h)]; rfl
/-- What has been read of a number. -/
def NumAt (s : ByteArray) (k n : Nat) : Prop := n = readD (s.data.toList.take k) ∧ n < 10 ^ k ∧ ∀ j (h : j < s.size), j < k → isDig s[j] = true
theorem num_step {s : ByteArray} {k n : Nat} (h : NumAt s k n) (hk : k < s.size) (hd : isDig s[k] = true) : NumAt s (k + 1) (10 * n + (s[k].toNat - 48)) := by
  obtain ⟨h1, h2, h3⟩ := h
  refine ⟨by rw [take_snoc s k hk, readD_snoc, h1], ?_, fun j hj hjk => ?_⟩
  · unfold isDig at hd
    simp only [Bool.and_eq_true, decide_eq_true_eq] at hd
    rw [Nat.pow_succ]; omega
  · by_cases he : j = k
    · subst he; exact hd
    · exact h3 j hj (by omega)
theorem num_end {s : ByteArray} {n : Nat} (h : NumAt s s.size n) (h1 : 1 ≤ s.size) (h5 : s.size ≤ 5) : numZ s.data.toList = n := by
  unfold numZ
  have ha : s.data.toList.all isDig = true := by
    refine List.all_eq_true.2 fun x hx => ?_
    obtain ⟨j, hj, rfl⟩ := List.getElem_of_mem hx
    rw [sz] at hj
    exact h.2.2 j hj (by omega)
  rw [if_pos ⟨by rw [sz]; exact h1, by rw [sz]; exact h5, ha⟩, h.1, List.take_of_length_le (by rw [sz]; exact Nat.le_refl _)]
theorem num_none {s : ByteArray} (h : s.size < 1 ∨ 5 < s.size ∨ ∃ k, ∃ h : k < s.size, isDig s[k] = false) : numZ s.data.toList = -1 := by
  unfold numZ
  rw [if_neg]
  rintro ⟨h1, h2, h3⟩
  rw [sz] at h1 h2
  rcases h with h | h | ⟨k, hk, h⟩
  · omega
  · omega
  · have hm : s[k] ∈ s.data.toList := List.mem_of_getElem? (get_at s k hk)
    rw [List.all_eq_true.1 h3 _ hm] at h
    cases h
theorem num_facts {n : Nat} {c : UInt8} (hn : n < 100000) (h1 : 48 ≤ c.toNat) (h2 : c.toNat ≤ 57) : wrap64 (10 * (n : Int)) = 10 * (n : Int) ∧ IntKind.u8.wrap ((c.toNat : Int) - 48) = (c.toNat : Int) - 48 ∧ wrap64 ((c.toNat : Int) - 48) = (c.toNat : Int) - 48 ∧ wrap64 (10 * (n : Int) + ((c.toNat : Int) - 48)) = 10 * (n : Int) + ((c.toNat : Int) - 48) ∧ 10 * (n : Int) + ((c.toNat : Int) - 48) = ((10 * n + (c.toNat - 48) : Nat) : Int) := by
  refine ⟨by unfold wrap64; omega, by rw [IntKind.wrap_u8]; omega, by unfold wrap64; omega, by unfold wrap64; omega, by omega⟩
set_option maxHeartbeats 2000000 in
set_option maxRecDepth 100000 in
theorem rnum_any (s : ByteArray) (w : World) : Calls Tryz.prog 68 #[.string s] w fun e w' => e = .returned (.int .i64 (numZ s.data.toList)) ∧ w' = w := by
  by_cases h0 : s.size < 1
  · have h1 : (s.size : Int) < 1 := by omega
    rw [num_none (.inl h0)]
    clear h0
    go_enter Tryz.func68, Tryz.ntmps68
    go_wp2
    go_ret
    exact ⟨rfl, rfl⟩
  · have h1 : ¬ (s.size : Int) < 1 := by omega
    by_cases h8 : 5 < s.size
    · have h2 : (5 : Int) < s.size := by omega
      rw [num_none (.inr (.inl h8))]
      clear h0 h8
      go_enter Tryz.func68, Tryz.ntmps68
      go_wp2
      go_ret
      exact ⟨rfl, rfl⟩
    · have h2 : ¬ (5 : Int) < s.size := by omega
      have hs5 : (s.size : Int) ≤ 5 := by omega
      have HL := Lib.hid (And.intro h0 h8)
      clear h0 h8
      go_enter Tryz.func68, Tryz.ntmps68
      go_wp2
      go_loopw [3, 4] (fun v3 v4 wr => ∃ k n : Nat, k ≤ s.size ∧ v3 = .int .i64 n ∧ v4 = .int .i64 k ∧ wr = w ∧ Hid (NumAt s k n)) (fun v3 v4 _ => s.size - (intOf v4).toNat)
      case atStart => exact ⟨0, 0, Nat.zero_le _, rfl, rfl, rfl, Lib.hid ⟨rfl, by decide, fun j _ h => by omega⟩⟩
      case round =>
        obtain ⟨k, n, hk, rfl, rfl, rfl, HH⟩ := hrel
        by_cases hlt : k < s.size
        · have hlt1 : (k : Int) < s.size := by omega
          cases hd : isDig s[k] with
          | true =>
            have hd2 := hd
            unfold isDig at hd2
            simp only [Bool.and_eq_true, decide_eq_true_eq] at hd2
            have HX := Lib.hid (num_step HH.out hlt hd)
            have hn : n < 100000 := by
              have := HH.out.2.1
              have h10 : 10 ^ k ≤ 10 ^ 5 := Nat.pow_le_pow_right (by decide) (by have := HL.out; omega)
              omega
            obtain ⟨q1, q2, q3, q4, q5⟩ := num_facts hn hd2.1 hd2.2
            have e1 : ¬ (s[k].toNat : Int) < 48 := by omega
            have e2 : ¬ (57 : Int) < (s[k].toNat : Int) := by omega
            have HQ5 := Lib.hid q5
            clear hd hd2 hn q5
            go_wp2
            go_roundw
            case rel => exact ⟨k + 1, _, by omega, by rw [q4, HQ5.out], by go_num, trivial, HX⟩
            case measure => clear q1 q2 q3 q4; simp [intOf]; omega
          | false =>
            have HX := Lib.hid (num_none (.inr (.inr ⟨k, hlt, hd⟩)))
            by_cases e1 : (s[k].toNat : Int) < 48
            · clear hd
              go_wp2
              go_ret
              exact ⟨by rw [HX.out]; rfl, rfl⟩
            · have e2 : (57 : Int) < (s[k].toNat : Int) := by
                by_cases e : s[k].toNat ≤ 57
                · exfalso
                  unfold isDig at hd
                  simp [e] at hd
                  omega
                · omega
              clear hd
              go_wp2
              go_ret
              exact ⟨by rw [HX.out]; rfl, rfl⟩
        · have hlt1 : ¬ (k : Int) < s.size := by omega
          have hkk : k = s.size := by omega
          have HX := Lib.hid (num_end (hkk ▸ HH.out) (by have := HL.out; omega) (by have := HL.out; omega))
          clear hkk hlt hk
          go_wp2
          go_ret
          exact ⟨by rw [HX.out]; rfl, rfl⟩
end Go.Proofs.Pw
/- The document's Right of a password's field. -/
namespace Go.Proofs.Pw.Mx
open Go.RowKit

theorem rdigit_any (c : UInt8) (w : World) : Calls Tryz.prog 39 #[.int .u8 (c.toNat : Int)] w fun e w' => e = .returned (.int .i64 (if isHex c then (val c : Int) else -1)) ∧ w' = w := by
  by_cases hx : isHex c = true
  · rw [if_pos hx]
    rcases hex_kind hx with ⟨h1, h2, h3⟩ | ⟨h1, h2, h3⟩
    · have d1 : (48 : Int) ≤ c.toNat := by omega
      have d2 : (c.toNat : Int) ≤ 57 := by omega
      have h4 : (val c : Int) = (c.toNat : Int) - 48 := by omega
      rw [h4]
      clear hx h1 h2 h3 h4
      go_enter Tryz.func39, Tryz.ntmps39
      go_wp2
      go_ret
      exact ⟨rfl, rfl⟩
    · have d1 : (97 : Int) ≤ c.toNat := by omega
      have d2 : (c.toNat : Int) ≤ 102 := by omega
      have h4 : (val c : Int) = (c.toNat : Int) - 97 + 10 := by omega
      rw [h4]
      clear hx h1 h2 h3 h4
      go_enter Tryz.func39, Tryz.ntmps39
      go_wp2
      go_ret
      exact ⟨rfl, rfl⟩
  · rw [if_neg hx]
    have hx2 := hx
    unfold isHex at hx2
    simp at hx2
    by_cases h1 : c.toNat < 48
    · have d1 : (c.toNat : Int) < 48 := by omega
      clear hx hx2 h1
      go_enter Tryz.func39, Tryz.ntmps39
      go_wp2
      go_ret
      exact ⟨rfl, rfl⟩
    · by_cases h2 : c.toNat < 97
      · have d1 : (57 : Int) < c.toNat := by have := hx2.1 (by omega); omega
        have d2 : (c.toNat : Int) < 97 := by omega
        clear hx hx2 h1 h2
        go_enter Tryz.func39, Tryz.ntmps39
        go_wp2
        go_ret
        exact ⟨rfl, rfl⟩
      · have d1 : (102 : Int) < c.toNat := by have := hx2.2 (by omega); omega
        clear hx hx2 h1 h2
        go_enter Tryz.func39, Tryz.ntmps39
        go_wp2
        go_ret
        exact ⟨rfl, rfl⟩

theorem isField_iff (l : Bytes) : isField l ↔ l.length = 21 ∧ l[4]? = some 36 ∧ ∀ i c, i < 21 → i ≠ 4 → l[i]? = some c → isHex c = true := by
  constructor
  · rintro ⟨h, t, rfl, h1, h2, h3, h4⟩
    refine ⟨by simp [h1, h2], by rw [List.getElem?_append_right (by omega), h1]; rfl, fun i c hi hn hc => ?_⟩
    by_cases hlt : i < 4
    · rw [List.getElem?_append_left (by omega)] at hc
      exact List.all_eq_true.1 h3 _ (List.mem_of_getElem? hc)
    · rw [List.getElem?_append_right (by omega), h1] at hc
      obtain ⟨m, rfl⟩ : ∃ m, i = m + 5 := ⟨i - 5, by omega⟩
      rw [show m + 5 - 4 = m + 1 by omega, List.getElem?_cons_succ] at hc
      exact List.all_eq_true.1 h4 _ (List.mem_of_getElem? hc)
  · rintro ⟨h1, h2, h3⟩
    have h4 : 4 < l.length := by omega
    have he : l = l.take 4 ++ l[4] :: l.drop 5 := by
      conv => lhs; rw [← List.take_append_drop 4 l]
      rw [List.drop_eq_getElem_cons h4]
    have h5 : l[4] = 36 := by rw [List.getElem?_eq_getElem h4] at h2; exact Option.some.inj h2
    rw [h5] at he
    refine ⟨l.take 4, l.drop 5, he, by rw [List.length_take]; omega, by rw [List.length_drop]; omega, ?_, ?_⟩
    · refine List.all_eq_true.2 fun x hx => ?_
      obtain ⟨i, hi, hg⟩ := List.getElem_of_mem hx
      rw [List.getElem_take] at hg
      have hi4 : i < 4 := by rw [List.length_take] at hi; omega
      exact h3 i x (by omega) (by omega) (by rw [List.getElem?_eq_getElem (by omega), hg])
    · refine List.all_eq_true.2 fun x hx => ?_
      obtain ⟨i, hi, hg⟩ := List.getElem_of_mem hx
      rw [List.getElem_drop] at hg
      have hi4 : i < 16 := by rw [List.length_drop] at hi; omega
      exact h3 (5 + i) x (by omega) (by omega) (by rw [List.getElem?_eq_getElem (by omega), hg])
theorem get_data (s : ByteArray) (i : Nat) (h : i < s.size) : s.data.toList[i]? = some s[i] := by
  rw [List.getElem?_eq_getElem (by rw [sz]; exact h)]; rfl

def IsPost (f : ByteArray) (w : World) (e : Ending) (w' : World) : Prop := ∃ r : Bool, e = .returned (.bool r) ∧ (r = true ↔ isField f.data.toList) ∧ w' = w
set_option maxHeartbeats 1000000 in
theorem ris_any (f : ByteArray) (w : World) (hf : f.size ≤ 140737488351232) :
    Calls Tryz.prog 38 #[.string f] w (IsPost f w) := by
  have hI := Lib.hid (isField_iff f.data.toList)
  by_cases hl : f.size = 21
  · have h4 : (4 : Int) < f.size := by omega
    have h4n : 4 < f.size := by omega
    have HL := Lib.hid hl
    have H4 := Lib.hid (get_data f 4 h4n)
    have hz : (f.size : Int) = 21 := by omega
    clear hl
    by_cases hc : f[4] = 36
    · have hc1 : (f[4].toNat : Int) = 36 := by rw [hc]; rfl
      have HC := Lib.hid hc
      clear hc
      go_enter Tryz.func38, Tryz.ntmps38
      go_wp2
      go_loopw [3] (fun i wr => ∃ k : Nat, k ≤ 21 ∧ i = .int .i64 k ∧ wr = w ∧ Hid (∀ j c, j < k → j ≠ 4 → f.data.toList[j]? = some c → isHex c = true)) (fun i _ => 21 - (intOf i).toNat)
      case atStart => exact ⟨0, by omega, rfl, rfl, Lib.hid fun j c h => by omega⟩
      case round =>
        obtain ⟨k, hk, rfl, rfl, HK⟩ := hrel
        by_cases hlt : k < 21
        · have hlt1 : (k : Int) < 21 := by omega
          have hks : k < f.size := by have := HL.out; omega
          have hks1 : (k : Int) < f.size := by omega
          by_cases hk4 : k = 4
          · have hk41 : (k : Int) = 4 := by omega
            have HK4 := Lib.hid hk4
            clear hk4
            go_wp2
            go_roundw
            case rel => exact ⟨5, by omega, rfl, trivial, Lib.hid fun j c hj hn hc => HK.out j c (by have := HK4.out; omega) hn hc⟩
            case measure => have := HK4.out; simp [intOf]; omega
          · have hk41 : ¬ (k : Int) = 4 := by omega
            have HK4 := Lib.hid hk4
            clear hk4
            have HG := Lib.hid (get_data f k hks)
            by_cases hx : isHex f[k] = true
            · have hv : ¬ ((val f[k] : Nat) : Int) < 0 := by omega
              go_wp2_with (go_at_call 39; refine (rdigit_any _ _).mono ?_; rintro e w2 ⟨he, rfl⟩; rw [if_pos hx] at he; subst he)
              go_roundw
              case rel => exact ⟨k + 1, by omega, by go_num, trivial, Lib.hid fun j c hj hn hc => by
                by_cases hjk : j = k
                · subst hjk
                  rw [HG.out] at hc
                  rw [← Option.some.inj hc]; exact hx
                · exact HK.out j c (by omega) hn hc⟩
              case measure => simp [intOf]; omega
            · go_wp2_with (go_at_call 39; refine (rdigit_any _ _).mono ?_; rintro e w2 ⟨he, rfl⟩; rw [if_neg hx] at he; subst he)
              go_ret
              exact ⟨false, rfl, ⟨fun h => Bool.noConfusion h, fun h => absurd ((hI.out.1 h).2.2 k _ hlt HK4.out HG.out) hx⟩, rfl⟩
        · have hlt1 : ¬ (k : Int) < 21 := by omega
          go_wp2
          go_ret
          refine ⟨true, rfl, ⟨fun _ => hI.out.2 ⟨by rw [sz]; exact HL.out, by rw [H4.out, HC.out], fun j c hj => HK.out j c (by omega)⟩, fun _ => rfl⟩, rfl⟩
    · have hc1 : ¬ (f[4].toNat : Int) = 36 := fun h => hc (by apply UInt8.toNat_inj.1; show f[4].toNat = 36; omega)
      have HC := Lib.hid hc
      clear hc
      go_enter Tryz.func38, Tryz.ntmps38
      go_wp2
      go_ret
      refine ⟨false, rfl, ⟨fun h => Bool.noConfusion h, fun h => ?_⟩, rfl⟩
      have := (hI.out.1 h).2.1
      rw [H4.out] at this
      exact absurd (Option.some.inj this) HC.out
  · have hz : ¬ (f.size : Int) = 21 := by omega
    have HL := Lib.hid hl
    clear hl
    go_enter Tryz.func38, Tryz.ntmps38
    go_wp2
    go_ret
    exact ⟨false, rfl, ⟨fun h => Bool.noConfusion h, fun h => absurd (by rw [← sz]; exact (hI.out.1 h).1) HL.out⟩, rfl⟩
def BoolPost (P : Prop) (w : World) (e : Ending) (w' : World) : Prop := ∃ r : Bool, e = .returned (.bool r) ∧ (r = true ↔ P) ∧ Below w.heap.size w w'
theorem rright_any (f : ByteArray) (w : World) (hf : f.size ≤ 140737488351232) : Calls Tryz.prog 107 #[.string f] w (BoolPost (RightP f) w) := by
  by_cases h0 : f.data.toList = []
  · have h1 := (emp_iff f).2 h0
    have H0 := Lib.hid h0
    clear h0
    go_enter Tryz.func107, Tryz.ntmps107
    go_wp2
    go_ret
    exact ⟨true, rfl, ⟨fun _ => .inl H0.out, fun _ => rfl⟩, Below.refl _ _⟩
  · have h1 : f.toList.isEmpty = false := emp_no h0
    have H0 := Lib.hid h0
    clear h0
    by_cases h4 : f.data.toList = [42]
    · have h5 : (f.toList == [42]) = true := by rw [toList_data, beq_iff_eq]; exact h4
      have H4 := Lib.hid h4
      clear h4 h1
      have h1 : f.toList.isEmpty = false := emp_no H0.out
      go_enter Tryz.func107, Tryz.ntmps107
      go_wp2
      go_ret
      exact ⟨true, rfl, ⟨fun _ => .inr (.inl H4.out), fun _ => rfl⟩, Below.refl _ _⟩
    · have h5 : (f.toList == [42]) = false := by
        cases hh : f.toList == [42] with
        | false => rfl
        | true => rw [toList_data, beq_iff_eq] at hh; exact absurd hh h4
      have H4 := Lib.hid h4
      clear h4
      go_enter Tryz.func107, Tryz.ntmps107
      go_wp2_with (go_at_call 38; refine (ris_any f _ hf).mono ?_; rintro e w' ⟨r, rfl, hr, rfl⟩)
      go_ret
      exact ⟨r, rfl, hr.trans ⟨fun h => .inr (.inr h), fun h => by
        rcases h with h | h | h
        · exact absurd h H0.out
        · exact absurd h H4.out
        · exact h⟩, Below.refl _ _⟩

end Go.Proofs.Pw.Mx
