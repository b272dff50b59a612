/- Part 3 of the proof: contracts of functions that the statement reaches, and plain lemmas. -/
import Derived.Test.YtlhlehdajkoogaaGreatDoorAll1
import Derived.Maps.AppendAt
import Derived.Test.YtlhlehdajkoogaaGreatDoorAll0
import Derived.Laws.Bits128
import Derived.WalkKit
import Derived.Test.YtlhlehdajkoogaaGreatDoorProg
import Derived.Lib.Hide
import Derived.Laws.BitsLemmas
import Derived.Test.YtlhlehdajkoogaaGreatDoorShelf
import Derived.Laws.IdiomStrings
import Derived.Laws.MakeOwn
import Derived.Lib.ConvBytes
import Derived.Shelf.Strings.SlTrimAscii
set_option linter.unusedSimpArgs false
set_option linter.unusedVariables false
/- A line is read: the walk. -/
namespace Go.Proofs.Pw
open Go.RowKit

set_option maxHeartbeats 16000000 in
set_option maxRecDepth 100000 in
theorem read_any (s : ByteArray) (w : World) (hs : s.size ≤ 1000000) (hW : HasW w) : Calls Tryz.prog 168 #[.string s] w (ReadP s w) := by
  have HW := Lib.hid hW
  have HSZ := Lib.hid hs
  have hb0 : Below w.heap.size w (w.alloc (.cells (userC zeroU) 47)) := (Below.refl _ _).alloc (Nat.le_refl _) _
  obtain ⟨m, hm⟩ := (hW.below hb0).max
  have HSP := Lib.hid (Tryz.strings_Split s ⟨#[58]⟩ m (w.alloc (.cells (userC zeroU) 47)) (by omega) hm (by decide))
  have HX := Lib.hid (fun x (hx : x ∈ pieces s) => Nat.le_trans (piece_size ⟨#[58]⟩ _ s x hx) hs)
  have HB0 := Lib.hid hb0
  have hh0 := at_new w (.cells (userC zeroU) 47)
  have HH0 := Lib.hid hh0
  clear hW hs hb0 hm hh0
  go_enter Tryz.func168, Tryz.ntmps168
  go_wp2_with fail
  refine HSP.out.mono ?_
  rintro e w1 ⟨rfl, hw1⟩
  have hlen := pieces_len s
  have hw1' : w1 = (w.alloc (.cells (userC zeroU) 47)).alloc (.cells ((pieces s).map Value.string).toArray 9) := hw1
  rw [← hlen]
  have HD : Hid (∀ v, IsLine s.data.toList v → (pieces s).map (·.data.toList) = [v.name.data.toList, v.pass.data.toList, decD v.id.toNat, decD v.group.toNat, v.home.data.toList, v.shell.data.toList]) := Lib.hid (fun v h => line_pieces h)
  have HPD := Lib.hid (pieces_data s)
  clear hw1 hlen HSP
  generalize pieces s = X at *
  have hb1 : Below (w.alloc (.cells (userC zeroU) 47)).heap.size (w.alloc (.cells (userC zeroU) 47)) w1 := by rw [hw1']; exact (Below.refl _ _).alloc (Nat.le_refl _) _
  have HB1 := Lib.hid (HB0.out.trans (hb1.mono HB0.out.size))
  have HH1 := Lib.hid (below_heap hb1 HH0.out)
  have hc1 : ∀ j x, X[j]? = some x → w1.cell? ⟨(w.alloc (.cells (userC zeroU) 47)).heap.size, j, none⟩ = some (.string x) := fun j x hx => by
    rw [hw1', heap_cell (at_new _ _) j]
    simp [hx]
  have HC1 := Lib.hid hc1
  clear hb1 hc1 hw1' HB0 HH0
  by_cases h6 : X.length = 6
  · obtain ⟨x0, x1, x2, x3, x4, x5, rfl⟩ : ∃ x0 x1 x2 x3 x4 x5, X = [x0, x1, x2, x3, x4, x5] := by
      match X, h6 with
      | [x0, x1, x2, x3, x4, x5], _ => exact ⟨x0, x1, x2, x3, x4, x5, rfl⟩
    generalize hn1 : (w.alloc (.cells (userC zeroU) 47)).heap.size = n1 at *
    have q0 := HC1.out 0 x0 rfl
    have q1 := HC1.out 1 x1 rfl
    have q2 := HC1.out 2 x2 rfl
    have q3 := HC1.out 3 x3 rfl
    have q4 := HC1.out 4 x4 rfl
    have q5 := HC1.out 5 x5 rfl
    have z2 := HX.out x2 (by simp)
    have z3 := HX.out x3 (by simp)
    go_wp2_with fail
    refine (pu_any x2 w1 z2 (HW.out.below HB1.out)).mono ?_
    rintro e w2 ⟨n2, v2, rfl, l2, hb2, h2⟩
    have HB2 := Lib.hid (HB1.out.trans (hb2.mono HB1.out.size))
    have HH2 := Lib.hid (below_heap hb2 HH1.out)
    have HC2 := Lib.hid (fun j x hx => cell_below (HC1.out j x hx) hb2)
    have H2 := Lib.hid h2
    clear hb2 h2 q0 q1 q2 q3 q4 q5 z2 HC1 HH1 HB1
    have q3 := HC2.out 3 x3 rfl
    go_wp2_with fail
    refine (pu_any x3 w2 z3 (HW.out.below HB2.out)).mono ?_
    rintro e w3 ⟨n3, v3, rfl, l3, hb3, h3⟩
    have HB3 := Lib.hid (HB2.out.trans (hb3.mono HB2.out.size))
    have HH3 := Lib.hid (below_heap hb3 HH2.out)
    have HC3 := Lib.hid (fun j x hx => cell_below (HC2.out j x hx) hb3)
    have H3 := Lib.hid h3
    clear hb3 h3 q3 z3 HC2 HH2 HB2
    have q0 := HC3.out 0 x0 rfl
    have q1 := HC3.out 1 x1 rfl
    have q2 := HC3.out 2 x2 rfl
    have q3 := HC3.out 3 x3 rfl
    have q4 := HC3.out 4 x4 rfl
    have q5 := HC3.out 5 x5 rfl
    have k2 : (n2 : Int) ≤ 65535 := by omega
    have k3 : (n3 : Int) ≤ 65535 := by omega
    have QA := Lib.hid (fun j x hx (o : Obj) => cell_below (HC3.out j x hx) ((Below.refl w3.heap.size w3).alloc (Nat.le_refl _) o))
    have qa0 : ∀ o : Obj, (w3.alloc o).cell? ⟨n1, 0, none⟩ = some (.string x0) := fun o => QA.out 0 x0 rfl o
    have qa1 : ∀ o : Obj, (w3.alloc o).cell? ⟨n1, 1, none⟩ = some (.string x1) := fun o => QA.out 1 x1 rfl o
    have qa4 : ∀ o : Obj, (w3.alloc o).cell? ⟨n1, 4, none⟩ = some (.string x4) := fun o => QA.out 4 x4 rfl o
    have qa5 : ∀ o : Obj, (w3.alloc o).cell? ⟨n1, 5, none⟩ = some (.string x5) := fun o => QA.out 5 x5 rfl o
    go_upto_region 6 with fail
    go_region
    have hb4 : Below w3.heap.size w3 (w3.alloc (.cells (userC ⟨x0, x1, n2, n3, x4, x5⟩) 47)).drew := ((Below.refl _ _).alloc (Nat.le_refl _) _).drew
    have hu4 : UC (w3.alloc (.cells (userC ⟨x0, x1, n2, n3, x4, x5⟩) 47)).drew w3.heap.size 0 ⟨x0, x1, n2, n3, x4, x5⟩ := box_six (u := 47) (Below.refl _ _).drew
    have HB4 := Lib.hid (HB3.out.trans (hb4.mono HB3.out.size))
    have HH4 := Lib.hid (below_heap hb4 HH3.out)
    have HU4 := Lib.hid hu4
    have hW4 : ∃ W4, (w3.alloc (.cells (userC ⟨x0, x1, n2, n3, x4, x5⟩) 47)).drew = W4 := ⟨_, rfl⟩
    obtain ⟨W4, hW4⟩ := hW4
    rw [hW4] at HB4 HH4 HU4
    have hW4' : (w3.alloc (.cells #[.string x0, .string x1, .int .i64 n2, .int .i64 n3, .string x4, .string x5] 47)).drew = W4 := hW4
    rw [hW4']
    have hsz : SzU ⟨x0, x1, n2, n3, x4, x5⟩ := ⟨Nat.le_trans (HX.out x0 (by simp)) (by omega), Nat.le_trans (HX.out x1 (by simp)) (by omega), Nat.le_trans (HX.out x4 (by simp)) (by omega), Nat.le_trans (HX.out x5 (by simp)) (by omega)⟩
    have HSZU := Lib.hid hsz
    have HNE : Hid (w3.heap.size ≠ w.heap.size) := Lib.hid (Nat.ne_of_gt (Array.getElem?_eq_some_iff.1 HH3.out).1)
    clear hb4 hu4 hW4 hW4' hsz qa0 qa1 qa4 qa5 q0 q1 q2 q3 q4 q5 QA HC3 HH3 HB3
    generalize w3.heap.size = n4 at *
    obtain ⟨⟨e0, e1, e2, e3, e4, e5⟩, ⟨z0, z1, z2, z3, z4, z5⟩⟩ := six_facts HH4.out
    obtain ⟨c0, c1, c2, c3, c4, c5⟩ := HU4.out.at0
    simp only [zeroU] at e0 e1 e2 e3 e4 e5
    rcases H2.out with ⟨rfl, p2⟩ | ⟨⟨N, rfl⟩, p2⟩
    · rcases H3.out with ⟨rfl, p3⟩ | ⟨⟨N, rfl⟩, p3⟩
      · have HU : Hid (∀ v, IsLine s.data.toList v → v = ⟨x0, x1, n2, n3, x4, x5⟩) := Lib.hid (fun v hv => read_uniq hv.1 (HD.out v hv) p2 p3)
        clear p2 p3
        have HC0 : Hid (Core w n4 ⟨x0, x1, n2, n3, x4, x5⟩ W4) := Lib.hid ⟨HB4.out, HU4.out, HNE.out, zeroU, HH4.out⟩
        have HMC := fun (W' : World) => may_any ⟨x0, x1, n2, n3, x4, x5⟩ W' HSZU.out
        clear c0 c1 c2 c3 c4 c5 e0 e1 e2 e3 e4 e5 z0 z1 z2 z3 z4 z5
        cases hmay : mayB ⟨x0, x1, n2, n3, x4, x5⟩ with
        | false =>
          rw [hmay] at HMC
          have HMAY := Lib.hid hmay
          clear hmay
          unfold userC at HMC
          go_upto_region 7 with fail
          refine wp_region_held_drew (S := (fun W' => Core w n4 ⟨x0, x1, n2, n3, x4, x5⟩ W' ∧ (W'.cell? ⟨n4, 0, none⟩ = some (.string x0) ∧ W'.cell? ⟨n4, 1, none⟩ = some (.string x1) ∧ W'.cell? ⟨n4, 2, none⟩ = some (.int .i64 n2) ∧ W'.cell? ⟨n4, 3, none⟩ = some (.int .i64 n3) ∧ W'.cell? ⟨n4, 4, none⟩ = some (.string x4) ∧ W'.cell? ⟨n4, 5, none⟩ = some (.string x5)) ∧ (W'.cell? ⟨w.heap.size, 0, none⟩ = some (rdc w W' 0) ∧ W'.cell? ⟨w.heap.size, 1, none⟩ = some (rdc w W' 1) ∧ W'.cell? ⟨w.heap.size, 2, none⟩ = some (rdc w W' 2) ∧ W'.cell? ⟨w.heap.size, 3, none⟩ = some (rdc w W' 3) ∧ W'.cell? ⟨w.heap.size, 4, none⟩ = some (rdc w W' 4) ∧ W'.cell? ⟨w.heap.size, 5, none⟩ = some (rdc w W' 5)) ∧ (W'.frozen? ⟨w.heap.size, 0, none⟩ = false ∧ W'.frozen? ⟨w.heap.size, 1, none⟩ = false ∧ W'.frozen? ⟨w.heap.size, 2, none⟩ = false ∧ W'.frozen? ⟨w.heap.size, 3, none⟩ = false ∧ W'.frozen? ⟨w.heap.size, 4, none⟩ = false ∧ W'.frozen? ⟨w.heap.size, 5, none⟩ = false))) (by kernel_rfl) ((HC0.out.step (Below.refl _ _).drew).all) (fun hHeld => ?_)
          refine wpAnyH_take (i := 0) (v := ?_) rfl (by kernel_rfl) (by kernel_rfl) (by kernel_rfl) (fun _ _ _ h => h) (Or.inl ⟨by rfl, ?_⟩) (by assumption) ?_
          rotate_left
          · (intro W hSw; (try dsimp only at hSw); go_simp; try with_reducible rfl)
          try simp only [List.getElem_toArray, List.getElem_cons_zero, List.getElem_cons_succ, Act.put, List.setIfInBounds_toArray, List.set_cons_zero, List.set_cons_succ]
          refine wpAnyH_take (i := 1) (v := ?_) rfl (by kernel_rfl) (by kernel_rfl) (by kernel_rfl) (fun _ _ _ h => h) (Or.inl ⟨by rfl, ?_⟩) (by assumption) ?_
          rotate_left
          · (intro W hSw; (try dsimp only at hSw); go_simp; try with_reducible rfl)
          try simp only [List.getElem_toArray, List.getElem_cons_zero, List.getElem_cons_succ, Act.put, List.setIfInBounds_toArray, List.set_cons_zero, List.set_cons_succ]
          refine wpAnyH_take (i := 2) (v := ?_) rfl (by kernel_rfl) (by kernel_rfl) (by kernel_rfl) (fun _ _ _ h => h) (Or.inl ⟨by rfl, ?_⟩) (by assumption) ?_
          rotate_left
          · (intro W hSw; (try dsimp only at hSw); go_simp; try with_reducible rfl)
          try simp only [List.getElem_toArray, List.getElem_cons_zero, List.getElem_cons_succ, Act.put, List.setIfInBounds_toArray, List.set_cons_zero, List.set_cons_succ]
          refine wpAnyH_take (i := 3) (v := ?_) rfl (by kernel_rfl) (by kernel_rfl) (by kernel_rfl) (fun _ _ _ h => h) (Or.inl ⟨by rfl, ?_⟩) (by assumption) ?_
          rotate_left
          · (intro W hSw; (try dsimp only at hSw); go_simp; try with_reducible rfl)
          try simp only [List.getElem_toArray, List.getElem_cons_zero, List.getElem_cons_succ, Act.put, List.setIfInBounds_toArray, List.set_cons_zero, List.set_cons_succ]
          refine wpAnyH_take (i := 4) (v := ?_) rfl (by kernel_rfl) (by kernel_rfl) (by kernel_rfl) (fun _ _ _ h => h) (Or.inl ⟨by rfl, ?_⟩) (by assumption) ?_
          rotate_left
          · (intro W hSw; (try dsimp only at hSw); go_simp; try with_reducible rfl)
          try simp only [List.getElem_toArray, List.getElem_cons_zero, List.getElem_cons_succ, Act.put, List.setIfInBounds_toArray, List.set_cons_zero, List.set_cons_succ]
          refine wpAnyH_take (i := 5) (v := ?_) rfl (by kernel_rfl) (by kernel_rfl) (by kernel_rfl) (fun _ _ _ h => h) (Or.inl ⟨by rfl, ?_⟩) (by assumption) ?_
          rotate_left
          · (intro W hSw; (try dsimp only at hSw); go_simp; try with_reducible rfl)
          try simp only [List.getElem_toArray, List.getElem_cons_zero, List.getElem_cons_succ, Act.put, List.setIfInBounds_toArray, List.set_cons_zero, List.set_cons_succ]
          refine wpAnyH_take (i := 6) (v := ?_) rfl (by kernel_rfl) (by kernel_rfl) (by kernel_rfl) (fun _ _ _ h => h) (Or.inl ⟨by rfl, ?_⟩) (by assumption) ?_
          rotate_left
          · (intro W hSw; (try dsimp only at hSw); go_simp; try with_reducible rfl)
          try simp only [List.getElem_toArray, List.getElem_cons_zero, List.getElem_cons_succ, Act.put, List.setIfInBounds_toArray, List.set_cons_zero, List.set_cons_succ]
          refine wpAnyH_take (i := 7) (v := ?_) rfl (by kernel_rfl) (by kernel_rfl) (by kernel_rfl) (fun _ _ _ h => h) (Or.inl ⟨by rfl, ?_⟩) (by assumption) ?_
          rotate_left
          · (intro W hSw; (try dsimp only at hSw); go_simp; try with_reducible rfl)
          try simp only [List.getElem_toArray, List.getElem_cons_zero, List.getElem_cons_succ, Act.put, List.setIfInBounds_toArray, List.set_cons_zero, List.set_cons_succ]
          refine wpAnyH_take (i := 8) (v := ?_) rfl (by kernel_rfl) (by kernel_rfl) (by kernel_rfl) (fun _ _ _ h => h) (Or.inl ⟨by rfl, ?_⟩) (by assumption) ?_
          rotate_left
          · (intro W hSw; (try dsimp only at hSw); go_simp; try with_reducible rfl)
          try simp only [List.getElem_toArray, List.getElem_cons_zero, List.getElem_cons_succ, Act.put, List.setIfInBounds_toArray, List.set_cons_zero, List.set_cons_succ]
          refine wpAnyH_ready (rs := [9]) (by kernel_rfl) (by simp) ?_
          refine AllReadyH.cons rfl (fun K hK => ?_) AllReadyH.nil
          simp only [List.getElem_toArray, List.getElem_cons_zero, List.getElem_cons_succ]
          go_simp
          go_at_call 194
          refine (HMC _).mono ?_
          rintro e w5 ⟨rfl, hb5⟩
          have hbz : Core w n4 ⟨x0, x1, n2, n3, x4, x5⟩ w5 := hHeld.1.step hb5
          refine hK.out _ _ ?_ (fun hHeld => ?_)
          · (try dsimp only); exact hbz.all
          clear hK K
          try simp only [List.getElem_toArray, List.getElem_cons_zero, List.getElem_cons_succ, Act.put, List.setIfInBounds_toArray, List.set_cons_zero, List.set_cons_succ]
          refine wpAnyH_take (i := 10) (v := ?_) rfl (by kernel_rfl) (by kernel_rfl) (by kernel_rfl) (fun _ _ _ h => h) (Or.inl ⟨by rfl, ?_⟩) (by assumption) ?_
          rotate_left
          · (intro W hSw; (try dsimp only at hSw); go_simp; try with_reducible rfl)
          try simp only [List.getElem_toArray, List.getElem_cons_zero, List.getElem_cons_succ, Act.put, List.setIfInBounds_toArray, List.set_cons_zero, List.set_cons_succ]
          refine wpAnyH_take (i := 11) (v := ?_) rfl (by kernel_rfl) (by kernel_rfl) (by kernel_rfl) (fun _ _ _ h => h) (Or.inl ⟨by rfl, ?_⟩) (by assumption) ?_
          rotate_left
          · (intro W hSw; (try dsimp only at hSw); go_simp; try with_reducible rfl)
          try simp only [List.getElem_toArray, List.getElem_cons_zero, List.getElem_cons_succ, Act.put, List.setIfInBounds_toArray, List.set_cons_zero, List.set_cons_succ]
          refine wpAnyH_take (i := 12) rfl (by kernel_rfl) (by kernel_rfl) (by kernel_rfl) (fun _ _ _ h => h) (Or.inr ⟨by rfl, rfl⟩) (by assumption) ?_
          try simp only [List.getElem_toArray, List.getElem_cons_zero, List.getElem_cons_succ, Act.put, List.setIfInBounds_toArray, List.set_cons_zero, List.set_cons_succ]
          refine wpAnyH_take (i := 13) rfl (by kernel_rfl) (by kernel_rfl) (by kernel_rfl) (fun _ _ _ h => h) (Or.inr ⟨by rfl, rfl⟩) (by assumption) ?_
          try simp only [List.getElem_toArray, List.getElem_cons_zero, List.getElem_cons_succ, Act.put, List.setIfInBounds_toArray, List.set_cons_zero, List.set_cons_succ]
          refine wpAnyH_take (i := 14) rfl (by kernel_rfl) (by kernel_rfl) (by kernel_rfl) (fun _ _ _ h => h) (Or.inr ⟨by rfl, rfl⟩) (by assumption) ?_
          try simp only [List.getElem_toArray, List.getElem_cons_zero, List.getElem_cons_succ, Act.put, List.setIfInBounds_toArray, List.set_cons_zero, List.set_cons_succ]
          refine wpAnyH_take (i := 15) rfl (by kernel_rfl) (by kernel_rfl) (by kernel_rfl) (fun _ _ _ h => h) (Or.inr ⟨by rfl, rfl⟩) (by assumption) ?_
          try simp only [List.getElem_toArray, List.getElem_cons_zero, List.getElem_cons_succ, Act.put, List.setIfInBounds_toArray, List.set_cons_zero, List.set_cons_succ]
          refine wpAnyH_take (i := 16) (v := ?_) rfl (by kernel_rfl) (by kernel_rfl) (by kernel_rfl) (fun _ _ _ h => h) (Or.inl ⟨by rfl, ?_⟩) (by assumption) ?_
          rotate_left
          · (intro W hSw; (try dsimp only at hSw); go_simp; try with_reducible rfl)
          try simp only [List.getElem_toArray, List.getElem_cons_zero, List.getElem_cons_succ, Act.put, List.setIfInBounds_toArray, List.set_cons_zero, List.set_cons_succ]
          refine wpAnyH_ready (rs := [17]) (by kernel_rfl) (by simp) ?_
          refine AllReadyH.cons rfl (fun K hK => ?_) AllReadyH.nil
          simp only [List.getElem_toArray, List.getElem_cons_zero, List.getElem_cons_succ]
          obtain ⟨_, _, ⟨j0, j1, j2, j3, j4, j5⟩, ⟨i0, i1, i2, i3, i4, i5⟩⟩ := hHeld
          go_simp
          refine hK.out _ _ ?_ (fun hHeld => ?_)
          · (try dsimp only); exact (hbz.six ⟨x0, x1, n2, n3, x4, x5⟩).all
          clear hK K
          try simp only [List.getElem_toArray, List.getElem_cons_zero, List.getElem_cons_succ, Act.put, List.setIfInBounds_toArray, List.set_cons_zero, List.set_cons_succ]
          refine wpAnyH_take (i := 18) (v := ?_) rfl (by kernel_rfl) (by kernel_rfl) (by kernel_rfl) (fun _ _ _ h => h) (Or.inl ⟨by rfl, ?_⟩) (by assumption) ?_
          rotate_left
          · (intro W hSw; (try dsimp only at hSw); go_simp; try with_reducible rfl)
          try simp only [List.getElem_toArray, List.getElem_cons_zero, List.getElem_cons_succ, Act.put, List.setIfInBounds_toArray, List.set_cons_zero, List.set_cons_succ]
          refine wpAnyH_done (by kernel_rfl) ?_ _
          obtain ⟨g, hg⟩ := hbz.row
          go_wp2
          exact leave16 w.heap.size rfl rfl (sixW_at hg ⟨x0, x1, n2, n3, x4, x5⟩) ⟨_, false, rfl, sixW_below hbz.below (Nat.le_refl _) _ _ _ _ _ _, (fun h => by cases h), fun _ v hv => by
            have hv1 := hv.1
            rw [HU.out v hv, HMAY.out] at hv1
            cases hv1⟩
        | true =>
          rw [hmay] at HMC
          have HMAY := Lib.hid hmay
          have hll := line_len hmay
          have hmp := mayP hmay
          have HLC := fun (W' : World) (hb : Below w.heap.size w W') => line_any ⟨x0, x1, n2, n3, x4, x5⟩ W' (HW.out.below hb) hmp.id0 hmp.id1 hmp.g0 hmp.g1 (by omega)
          obtain ⟨R, hR⟩ : ∃ R : ByteArray, ⟨(lineB ⟨x0, x1, n2, n3, x4, x5⟩).toArray⟩ = R := ⟨_, rfl⟩
          rw [hR] at HLC
          have heq : (R.toList == s.toList) = decide (R = s) := eq_text R s
          obtain ⟨q, hq⟩ : ∃ q, decide (R = s) = q := ⟨_, rfl⟩
          have HQ : Hid (q = true ↔ lineB ⟨x0, x1, n2, n3, x4, x5⟩ = s.data.toList) := Lib.hid (by
            rw [← hq, decide_eq_true_eq, ← hR]
            refine ⟨fun h => by rw [← h], fun h => ?_⟩
            apply ba_eq
            exact h)
          rw [hq] at heq
          clear hmay hll hmp hR hq
          unfold userC at HMC HLC
          go_upto_region 7 with fail
          refine wp_region_held_drew (S := (fun W' => Core w n4 ⟨x0, x1, n2, n3, x4, x5⟩ W' ∧ (W'.cell? ⟨n4, 0, none⟩ = some (.string x0) ∧ W'.cell? ⟨n4, 1, none⟩ = some (.string x1) ∧ W'.cell? ⟨n4, 2, none⟩ = some (.int .i64 n2) ∧ W'.cell? ⟨n4, 3, none⟩ = some (.int .i64 n3) ∧ W'.cell? ⟨n4, 4, none⟩ = some (.string x4) ∧ W'.cell? ⟨n4, 5, none⟩ = some (.string x5)) ∧ (W'.cell? ⟨w.heap.size, 0, none⟩ = some (rdc w W' 0) ∧ W'.cell? ⟨w.heap.size, 1, none⟩ = some (rdc w W' 1) ∧ W'.cell? ⟨w.heap.size, 2, none⟩ = some (rdc w W' 2) ∧ W'.cell? ⟨w.heap.size, 3, none⟩ = some (rdc w W' 3) ∧ W'.cell? ⟨w.heap.size, 4, none⟩ = some (rdc w W' 4) ∧ W'.cell? ⟨w.heap.size, 5, none⟩ = some (rdc w W' 5)) ∧ (W'.frozen? ⟨w.heap.size, 0, none⟩ = false ∧ W'.frozen? ⟨w.heap.size, 1, none⟩ = false ∧ W'.frozen? ⟨w.heap.size, 2, none⟩ = false ∧ W'.frozen? ⟨w.heap.size, 3, none⟩ = false ∧ W'.frozen? ⟨w.heap.size, 4, none⟩ = false ∧ W'.frozen? ⟨w.heap.size, 5, none⟩ = false))) (by kernel_rfl) ((HC0.out.step (Below.refl _ _).drew).all) (fun hHeld => ?_)
          refine wpAnyH_take (i := 0) (v := ?_) rfl (by kernel_rfl) (by kernel_rfl) (by kernel_rfl) (fun _ _ _ h => h) (Or.inl ⟨by rfl, ?_⟩) (by assumption) ?_
          rotate_left
          · (intro W hSw; (try dsimp only at hSw); go_simp; try with_reducible rfl)
          try simp only [List.getElem_toArray, List.getElem_cons_zero, List.getElem_cons_succ, Act.put, List.setIfInBounds_toArray, List.set_cons_zero, List.set_cons_succ]
          refine wpAnyH_take (i := 1) (v := ?_) rfl (by kernel_rfl) (by kernel_rfl) (by kernel_rfl) (fun _ _ _ h => h) (Or.inl ⟨by rfl, ?_⟩) (by assumption) ?_
          rotate_left
          · (intro W hSw; (try dsimp only at hSw); go_simp; try with_reducible rfl)
          try simp only [List.getElem_toArray, List.getElem_cons_zero, List.getElem_cons_succ, Act.put, List.setIfInBounds_toArray, List.set_cons_zero, List.set_cons_succ]
          refine wpAnyH_take (i := 2) (v := ?_) rfl (by kernel_rfl) (by kernel_rfl) (by kernel_rfl) (fun _ _ _ h => h) (Or.inl ⟨by rfl, ?_⟩) (by assumption) ?_
          rotate_left
          · (intro W hSw; (try dsimp only at hSw); go_simp; try with_reducible rfl)
          try simp only [List.getElem_toArray, List.getElem_cons_zero, List.getElem_cons_succ, Act.put, List.setIfInBounds_toArray, List.set_cons_zero, List.set_cons_succ]
          refine wpAnyH_take (i := 3) (v := ?_) rfl (by kernel_rfl) (by kernel_rfl) (by kernel_rfl) (fun _ _ _ h => h) (Or.inl ⟨by rfl, ?_⟩) (by assumption) ?_
          rotate_left
          · (intro W hSw; (try dsimp only at hSw); go_simp; try with_reducible rfl)
          try simp only [List.getElem_toArray, List.getElem_cons_zero, List.getElem_cons_succ, Act.put, List.setIfInBounds_toArray, List.set_cons_zero, List.set_cons_succ]
          refine wpAnyH_take (i := 4) (v := ?_) rfl (by kernel_rfl) (by kernel_rfl) (by kernel_rfl) (fun _ _ _ h => h) (Or.inl ⟨by rfl, ?_⟩) (by assumption) ?_
          rotate_left
          · (intro W hSw; (try dsimp only at hSw); go_simp; try with_reducible rfl)
          try simp only [List.getElem_toArray, List.getElem_cons_zero, List.getElem_cons_succ, Act.put, List.setIfInBounds_toArray, List.set_cons_zero, List.set_cons_succ]
          refine wpAnyH_take (i := 5) (v := ?_) rfl (by kernel_rfl) (by kernel_rfl) (by kernel_rfl) (fun _ _ _ h => h) (Or.inl ⟨by rfl, ?_⟩) (by assumption) ?_
          rotate_left
          · (intro W hSw; (try dsimp only at hSw); go_simp; try with_reducible rfl)
          try simp only [List.getElem_toArray, List.getElem_cons_zero, List.getElem_cons_succ, Act.put, List.setIfInBounds_toArray, List.set_cons_zero, List.set_cons_succ]
          refine wpAnyH_take (i := 6) (v := ?_) rfl (by kernel_rfl) (by kernel_rfl) (by kernel_rfl) (fun _ _ _ h => h) (Or.inl ⟨by rfl, ?_⟩) (by assumption) ?_
          rotate_left
          · (intro W hSw; (try dsimp only at hSw); go_simp; try with_reducible rfl)
          try simp only [List.getElem_toArray, List.getElem_cons_zero, List.getElem_cons_succ, Act.put, List.setIfInBounds_toArray, List.set_cons_zero, List.set_cons_succ]
          refine wpAnyH_take (i := 7) (v := ?_) rfl (by kernel_rfl) (by kernel_rfl) (by kernel_rfl) (fun _ _ _ h => h) (Or.inl ⟨by rfl, ?_⟩) (by assumption) ?_
          rotate_left
          · (intro W hSw; (try dsimp only at hSw); go_simp; try with_reducible rfl)
          try simp only [List.getElem_toArray, List.getElem_cons_zero, List.getElem_cons_succ, Act.put, List.setIfInBounds_toArray, List.set_cons_zero, List.set_cons_succ]
          refine wpAnyH_take (i := 8) (v := ?_) rfl (by kernel_rfl) (by kernel_rfl) (by kernel_rfl) (fun _ _ _ h => h) (Or.inl ⟨by rfl, ?_⟩) (by assumption) ?_
          rotate_left
          · (intro W hSw; (try dsimp only at hSw); go_simp; try with_reducible rfl)
          try simp only [List.getElem_toArray, List.getElem_cons_zero, List.getElem_cons_succ, Act.put, List.setIfInBounds_toArray, List.set_cons_zero, List.set_cons_succ]
          refine wpAnyH_ready (rs := [9]) (by kernel_rfl) (by simp) ?_
          refine AllReadyH.cons rfl (fun K hK => ?_) AllReadyH.nil
          simp only [List.getElem_toArray, List.getElem_cons_zero, List.getElem_cons_succ]
          go_simp
          go_at_call 194
          refine (HMC _).mono ?_
          rintro e w5 ⟨rfl, hb5⟩
          have hbz : Core w n4 ⟨x0, x1, n2, n3, x4, x5⟩ w5 := hHeld.1.step hb5
          refine hK.out _ _ ?_ (fun hHeld => ?_)
          · (try dsimp only); exact hbz.all
          clear hK K
          try simp only [List.getElem_toArray, List.getElem_cons_zero, List.getElem_cons_succ, Act.put, List.setIfInBounds_toArray, List.set_cons_zero, List.set_cons_succ]
          refine wpAnyH_take (i := 10) (v := ?_) rfl (by kernel_rfl) (by kernel_rfl) (by kernel_rfl) (fun _ _ _ h => h) (Or.inl ⟨by rfl, ?_⟩) (by assumption) ?_
          rotate_left
          · (intro W hSw; (try dsimp only at hSw); go_simp; try with_reducible rfl)
          try simp only [List.getElem_toArray, List.getElem_cons_zero, List.getElem_cons_succ, Act.put, List.setIfInBounds_toArray, List.set_cons_zero, List.set_cons_succ]
          refine wpAnyH_take (i := 11) (v := ?_) rfl (by kernel_rfl) (by kernel_rfl) (by kernel_rfl) (fun _ _ _ h => h) (Or.inl ⟨by rfl, ?_⟩) (by assumption) ?_
          rotate_left
          · (intro W hSw; (try dsimp only at hSw); go_simp; try with_reducible rfl)
          try simp only [List.getElem_toArray, List.getElem_cons_zero, List.getElem_cons_succ, Act.put, List.setIfInBounds_toArray, List.set_cons_zero, List.set_cons_succ]
          refine wpAnyH_take (i := 12) (v := ?_) rfl (by kernel_rfl) (by kernel_rfl) (by kernel_rfl) (fun _ _ _ h => h) (Or.inl ⟨by rfl, ?_⟩) (by assumption) ?_
          rotate_left
          · (intro W hSw; (try dsimp only at hSw); go_simp; try with_reducible rfl)
          try simp only [List.getElem_toArray, List.getElem_cons_zero, List.getElem_cons_succ, Act.put, List.setIfInBounds_toArray, List.set_cons_zero, List.set_cons_succ]
          refine wpAnyH_take (i := 14) (v := ?_) rfl (by kernel_rfl) (by kernel_rfl) (by kernel_rfl) (fun _ _ _ h => h) (Or.inl ⟨by rfl, ?_⟩) (by assumption) ?_
          rotate_left
          · (intro W hSw; (try dsimp only at hSw); go_simp; try with_reducible rfl)
          try simp only [List.getElem_toArray, List.getElem_cons_zero, List.getElem_cons_succ, Act.put, List.setIfInBounds_toArray, List.set_cons_zero, List.set_cons_succ]
          clear hbz hb5 HMC
          refine wpAnyH_ready (rs := [13]) (by kernel_rfl) (by simp) ?_
          refine AllReadyH.cons rfl (fun K hK => ?_) AllReadyH.nil
          simp only [List.getElem_toArray, List.getElem_cons_zero, List.getElem_cons_succ]
          go_simp
          go_at_call 195
          refine (HLC _ hHeld.1.below).mono ?_
          rintro e w6 ⟨rfl, hb6⟩
          have hbz : Core w n4 ⟨x0, x1, n2, n3, x4, x5⟩ w6 := hHeld.1.step hb6
          refine hK.out _ _ ?_ (fun hHeld => ?_)
          · (try dsimp only); exact hbz.all
          clear hK K
          try simp only [List.getElem_toArray, List.getElem_cons_zero, List.getElem_cons_succ, Act.put, List.setIfInBounds_toArray, List.set_cons_zero, List.set_cons_succ]
          refine wpAnyH_take (i := 15) (v := ?_) rfl (by kernel_rfl) (by kernel_rfl) (by kernel_rfl) (fun _ _ _ h => h) (Or.inl ⟨by rfl, ?_⟩) (by assumption) ?_
          rotate_left
          · (intro W hSw; (try dsimp only at hSw); go_simp; try with_reducible rfl)
          try simp only [List.getElem_toArray, List.getElem_cons_zero, List.getElem_cons_succ, Act.put, List.setIfInBounds_toArray, List.set_cons_zero, List.set_cons_succ]
          refine wpAnyH_take (i := 16) (v := ?_) rfl (by kernel_rfl) (by kernel_rfl) (by kernel_rfl) (fun _ _ _ h => h) (Or.inl ⟨by rfl, ?_⟩) (by assumption) ?_
          rotate_left
          · (intro W hSw; (try dsimp only at hSw); go_simp; try with_reducible rfl)
          try simp only [List.getElem_toArray, List.getElem_cons_zero, List.getElem_cons_succ, Act.put, List.setIfInBounds_toArray, List.set_cons_zero, List.set_cons_succ]
          refine wpAnyH_ready (rs := [17]) (by kernel_rfl) (by simp) ?_
          refine AllReadyH.cons rfl (fun K hK => ?_) AllReadyH.nil
          simp only [List.getElem_toArray, List.getElem_cons_zero, List.getElem_cons_succ]
          obtain ⟨_, _, ⟨j0, j1, j2, j3, j4, j5⟩, ⟨i0, i1, i2, i3, i4, i5⟩⟩ := hHeld
          go_simp
          refine hK.out _ _ ?_ (fun hHeld => ?_)
          · (try dsimp only); exact (hbz.six ⟨x0, x1, n2, n3, x4, x5⟩).all
          clear hK K
          try simp only [List.getElem_toArray, List.getElem_cons_zero, List.getElem_cons_succ, Act.put, List.setIfInBounds_toArray, List.set_cons_zero, List.set_cons_succ]
          refine wpAnyH_take (i := 18) (v := ?_) rfl (by kernel_rfl) (by kernel_rfl) (by kernel_rfl) (fun _ _ _ h => h) (Or.inl ⟨by rfl, ?_⟩) (by assumption) ?_
          rotate_left
          · (intro W hSw; (try dsimp only at hSw); go_simp; try with_reducible rfl)
          try simp only [List.getElem_toArray, List.getElem_cons_zero, List.getElem_cons_succ, Act.put, List.setIfInBounds_toArray, List.set_cons_zero, List.set_cons_succ]
          refine wpAnyH_done (by kernel_rfl) ?_ _
          obtain ⟨g, hg⟩ := hbz.row
          go_wp2
          exact leave16 w.heap.size rfl rfl (sixW_at hg ⟨x0, x1, n2, n3, x4, x5⟩) ⟨_, q, rfl, sixW_below hbz.below (Nat.le_refl _) _ _ _ _ _ _, (fun h => ⟨HMAY.out, HQ.out.1 h⟩), fun h v hv => by
            have hv2 := hv.2
            rw [HU.out v hv] at hv2
            rw [HQ.out.2 hv2] at h
            cases h⟩
      · have HNO : Hid (∀ v, ¬ IsLine s.data.toList v) := Lib.hid (fun v hv => p3 _ (read_two hv.1 (HD.out v hv)).2)
        clear p2 p3
        have HC0 : Hid (Core w n4 ⟨x0, x1, n2, n3, x4, x5⟩ W4) := Lib.hid ⟨HB4.out, HU4.out, HNE.out, zeroU, HH4.out⟩
        clear c0 c1 c2 c3 c4 c5 e0 e1 e2 e3 e4 e5 z0 z1 z2 z3 z4 z5
        go_upto_region 7 with fail
        refine wp_region_held_drew (S := (fun W' => Core w n4 ⟨x0, x1, n2, n3, x4, x5⟩ W' ∧ (W'.cell? ⟨n4, 0, none⟩ = some (.string x0) ∧ W'.cell? ⟨n4, 1, none⟩ = some (.string x1) ∧ W'.cell? ⟨n4, 2, none⟩ = some (.int .i64 n2) ∧ W'.cell? ⟨n4, 3, none⟩ = some (.int .i64 n3) ∧ W'.cell? ⟨n4, 4, none⟩ = some (.string x4) ∧ W'.cell? ⟨n4, 5, none⟩ = some (.string x5)) ∧ (W'.cell? ⟨w.heap.size, 0, none⟩ = some (rdc w W' 0) ∧ W'.cell? ⟨w.heap.size, 1, none⟩ = some (rdc w W' 1) ∧ W'.cell? ⟨w.heap.size, 2, none⟩ = some (rdc w W' 2) ∧ W'.cell? ⟨w.heap.size, 3, none⟩ = some (rdc w W' 3) ∧ W'.cell? ⟨w.heap.size, 4, none⟩ = some (rdc w W' 4) ∧ W'.cell? ⟨w.heap.size, 5, none⟩ = some (rdc w W' 5)) ∧ (W'.frozen? ⟨w.heap.size, 0, none⟩ = false ∧ W'.frozen? ⟨w.heap.size, 1, none⟩ = false ∧ W'.frozen? ⟨w.heap.size, 2, none⟩ = false ∧ W'.frozen? ⟨w.heap.size, 3, none⟩ = false ∧ W'.frozen? ⟨w.heap.size, 4, none⟩ = false ∧ W'.frozen? ⟨w.heap.size, 5, none⟩ = false))) (by kernel_rfl) ((HC0.out.step (Below.refl _ _).drew).all) (fun hHeld => ?_)
        generalize W4.drew = w5 at *
        refine wpAnyH_take (i := 0) (v := ?_) rfl (by kernel_rfl) (by kernel_rfl) (by kernel_rfl) (fun _ _ _ h => h) (Or.inl ⟨by rfl, ?_⟩) (by assumption) ?_
        rotate_left
        · (intro W hSw; (try dsimp only at hSw); go_simp; try with_reducible rfl)
        try simp only [List.getElem_toArray, List.getElem_cons_zero, List.getElem_cons_succ, Act.put, List.setIfInBounds_toArray, List.set_cons_zero, List.set_cons_succ]
        refine wpAnyH_take (i := 1) (v := ?_) rfl (by kernel_rfl) (by kernel_rfl) (by kernel_rfl) (fun _ _ _ h => h) (Or.inl ⟨by rfl, ?_⟩) (by assumption) ?_
        rotate_left
        · (intro W hSw; (try dsimp only at hSw); go_simp; try with_reducible rfl)
        try simp only [List.getElem_toArray, List.getElem_cons_zero, List.getElem_cons_succ, Act.put, List.setIfInBounds_toArray, List.set_cons_zero, List.set_cons_succ]
        refine wpAnyH_take (i := 2) (v := ?_) rfl (by kernel_rfl) (by kernel_rfl) (by kernel_rfl) (fun _ _ _ h => h) (Or.inl ⟨by rfl, ?_⟩) (by assumption) ?_
        rotate_left
        · (intro W hSw; (try dsimp only at hSw); go_simp; try with_reducible rfl)
        try simp only [List.getElem_toArray, List.getElem_cons_zero, List.getElem_cons_succ, Act.put, List.setIfInBounds_toArray, List.set_cons_zero, List.set_cons_succ]
        refine wpAnyH_take (i := 3) (v := ?_) rfl (by kernel_rfl) (by kernel_rfl) (by kernel_rfl) (fun _ _ _ h => h) (Or.inl ⟨by rfl, ?_⟩) (by assumption) ?_
        rotate_left
        · (intro W hSw; (try dsimp only at hSw); go_simp; try with_reducible rfl)
        try simp only [List.getElem_toArray, List.getElem_cons_zero, List.getElem_cons_succ, Act.put, List.setIfInBounds_toArray, List.set_cons_zero, List.set_cons_succ]
        refine wpAnyH_take (i := 4) (v := ?_) rfl (by kernel_rfl) (by kernel_rfl) (by kernel_rfl) (fun _ _ _ h => h) (Or.inl ⟨by rfl, ?_⟩) (by assumption) ?_
        rotate_left
        · (intro W hSw; (try dsimp only at hSw); go_simp; try with_reducible rfl)
        try simp only [List.getElem_toArray, List.getElem_cons_zero, List.getElem_cons_succ, Act.put, List.setIfInBounds_toArray, List.set_cons_zero, List.set_cons_succ]
        refine wpAnyH_take (i := 5) (v := ?_) rfl (by kernel_rfl) (by kernel_rfl) (by kernel_rfl) (fun _ _ _ h => h) (Or.inl ⟨by rfl, ?_⟩) (by assumption) ?_
        rotate_left
        · (intro W hSw; (try dsimp only at hSw); go_simp; try with_reducible rfl)
        try simp only [List.getElem_toArray, List.getElem_cons_zero, List.getElem_cons_succ, Act.put, List.setIfInBounds_toArray, List.set_cons_zero, List.set_cons_succ]
        refine wpAnyH_take (i := 6) (v := ?_) rfl (by kernel_rfl) (by kernel_rfl) (by kernel_rfl) (fun _ _ _ h => h) (Or.inl ⟨by rfl, ?_⟩) (by assumption) ?_
        rotate_left
        · (intro W hSw; (try dsimp only at hSw); go_simp; try with_reducible rfl)
        try simp only [List.getElem_toArray, List.getElem_cons_zero, List.getElem_cons_succ, Act.put, List.setIfInBounds_toArray, List.set_cons_zero, List.set_cons_succ]
        refine wpAnyH_take (i := 7) (v := ?_) rfl (by kernel_rfl) (by kernel_rfl) (by kernel_rfl) (fun _ _ _ h => h) (Or.inl ⟨by rfl, ?_⟩) (by assumption) ?_
        rotate_left
        · (intro W hSw; (try dsimp only at hSw); go_simp; try with_reducible rfl)
        try simp only [List.getElem_toArray, List.getElem_cons_zero, List.getElem_cons_succ, Act.put, List.setIfInBounds_toArray, List.set_cons_zero, List.set_cons_succ]
        refine wpAnyH_take (i := 8) rfl (by kernel_rfl) (by kernel_rfl) (by kernel_rfl) (fun _ _ _ h => h) (Or.inr ⟨by rfl, rfl⟩) (by assumption) ?_
        try simp only [List.getElem_toArray, List.getElem_cons_zero, List.getElem_cons_succ, Act.put, List.setIfInBounds_toArray, List.set_cons_zero, List.set_cons_succ]
        refine wpAnyH_take (i := 9) rfl (by kernel_rfl) (by kernel_rfl) (by kernel_rfl) (fun _ _ _ h => h) (Or.inr ⟨by rfl, rfl⟩) (by assumption) ?_
        try simp only [List.getElem_toArray, List.getElem_cons_zero, List.getElem_cons_succ, Act.put, List.setIfInBounds_toArray, List.set_cons_zero, List.set_cons_succ]
        refine wpAnyH_take (i := 10) (v := ?_) rfl (by kernel_rfl) (by kernel_rfl) (by kernel_rfl) (fun _ _ _ h => h) (Or.inl ⟨by rfl, ?_⟩) (by assumption) ?_
        rotate_left
        · (intro W hSw; (try dsimp only at hSw); go_simp; try with_reducible rfl)
        try simp only [List.getElem_toArray, List.getElem_cons_zero, List.getElem_cons_succ, Act.put, List.setIfInBounds_toArray, List.set_cons_zero, List.set_cons_succ]
        refine wpAnyH_take (i := 11) (v := ?_) rfl (by kernel_rfl) (by kernel_rfl) (by kernel_rfl) (fun _ _ _ h => h) (Or.inl ⟨by rfl, ?_⟩) (by assumption) ?_
        rotate_left
        · (intro W hSw; (try dsimp only at hSw); go_simp; try with_reducible rfl)
        try simp only [List.getElem_toArray, List.getElem_cons_zero, List.getElem_cons_succ, Act.put, List.setIfInBounds_toArray, List.set_cons_zero, List.set_cons_succ]
        refine wpAnyH_take (i := 12) rfl (by kernel_rfl) (by kernel_rfl) (by kernel_rfl) (fun _ _ _ h => h) (Or.inr ⟨by rfl, rfl⟩) (by assumption) ?_
        try simp only [List.getElem_toArray, List.getElem_cons_zero, List.getElem_cons_succ, Act.put, List.setIfInBounds_toArray, List.set_cons_zero, List.set_cons_succ]
        refine wpAnyH_take (i := 13) rfl (by kernel_rfl) (by kernel_rfl) (by kernel_rfl) (fun _ _ _ h => h) (Or.inr ⟨by rfl, rfl⟩) (by assumption) ?_
        try simp only [List.getElem_toArray, List.getElem_cons_zero, List.getElem_cons_succ, Act.put, List.setIfInBounds_toArray, List.set_cons_zero, List.set_cons_succ]
        refine wpAnyH_take (i := 14) rfl (by kernel_rfl) (by kernel_rfl) (by kernel_rfl) (fun _ _ _ h => h) (Or.inr ⟨by rfl, rfl⟩) (by assumption) ?_
        try simp only [List.getElem_toArray, List.getElem_cons_zero, List.getElem_cons_succ, Act.put, List.setIfInBounds_toArray, List.set_cons_zero, List.set_cons_succ]
        refine wpAnyH_take (i := 15) rfl (by kernel_rfl) (by kernel_rfl) (by kernel_rfl) (fun _ _ _ h => h) (Or.inr ⟨by rfl, rfl⟩) (by assumption) ?_
        try simp only [List.getElem_toArray, List.getElem_cons_zero, List.getElem_cons_succ, Act.put, List.setIfInBounds_toArray, List.set_cons_zero, List.set_cons_succ]
        refine wpAnyH_take (i := 16) (v := ?_) rfl (by kernel_rfl) (by kernel_rfl) (by kernel_rfl) (fun _ _ _ h => h) (Or.inl ⟨by rfl, ?_⟩) (by assumption) ?_
        rotate_left
        · (intro W hSw; (try dsimp only at hSw); go_simp; try with_reducible rfl)
        try simp only [List.getElem_toArray, List.getElem_cons_zero, List.getElem_cons_succ, Act.put, List.setIfInBounds_toArray, List.set_cons_zero, List.set_cons_succ]
        have hbz := hHeld.1
        refine wpAnyH_ready (rs := [17]) (by kernel_rfl) (by simp) ?_
        refine AllReadyH.cons rfl (fun K hK => ?_) AllReadyH.nil
        obtain ⟨_, _, ⟨j0, j1, j2, j3, j4, j5⟩, ⟨i0, i1, i2, i3, i4, i5⟩⟩ := hHeld
        go_simp
        refine hK.out _ _ ?_ (fun hHeld => ?_)
        · (try dsimp only); exact (hbz.six ⟨x0, x1, n2, n3, x4, x5⟩).all
        clear hK K
        try simp only [List.getElem_toArray, List.getElem_cons_zero, List.getElem_cons_succ, Act.put, List.setIfInBounds_toArray, List.set_cons_zero, List.set_cons_succ]
        refine wpAnyH_take (i := 18) (v := ?_) rfl (by kernel_rfl) (by kernel_rfl) (by kernel_rfl) (fun _ _ _ h => h) (Or.inl ⟨by rfl, ?_⟩) (by assumption) ?_
        rotate_left
        · (intro W hSw; (try dsimp only at hSw); go_simp; try with_reducible rfl)
        try simp only [List.getElem_toArray, List.getElem_cons_zero, List.getElem_cons_succ, Act.put, List.setIfInBounds_toArray, List.set_cons_zero, List.set_cons_succ]
        refine wpAnyH_done (by kernel_rfl) ?_ _
        obtain ⟨g, hg⟩ := hbz.row
        go_wp2
        exact leave16 w.heap.size rfl rfl (sixW_at hg ⟨x0, x1, n2, n3, x4, x5⟩) ⟨_, false, rfl, sixW_below hbz.below (Nat.le_refl _) _ _ _ _ _ _, (fun h => by cases h), fun _ => HNO.out⟩
    · have HNO : Hid (∀ v, ¬ IsLine s.data.toList v) := Lib.hid (fun v hv => p2 _ (read_two hv.1 (HD.out v hv)).1)
      clear p2
      have HC0 : Hid (Core w n4 ⟨x0, x1, n2, n3, x4, x5⟩ W4) := Lib.hid ⟨HB4.out, HU4.out, HNE.out, zeroU, HH4.out⟩
      clear c0 c1 c2 c3 c4 c5 e0 e1 e2 e3 e4 e5 z0 z1 z2 z3 z4 z5
      go_upto_region 7 with fail
      refine wp_region_held_drew (S := (fun W' => Core w n4 ⟨x0, x1, n2, n3, x4, x5⟩ W' ∧ (W'.cell? ⟨n4, 0, none⟩ = some (.string x0) ∧ W'.cell? ⟨n4, 1, none⟩ = some (.string x1) ∧ W'.cell? ⟨n4, 2, none⟩ = some (.int .i64 n2) ∧ W'.cell? ⟨n4, 3, none⟩ = some (.int .i64 n3) ∧ W'.cell? ⟨n4, 4, none⟩ = some (.string x4) ∧ W'.cell? ⟨n4, 5, none⟩ = some (.string x5)) ∧ (W'.cell? ⟨w.heap.size, 0, none⟩ = some (rdc w W' 0) ∧ W'.cell? ⟨w.heap.size, 1, none⟩ = some (rdc w W' 1) ∧ W'.cell? ⟨w.heap.size, 2, none⟩ = some (rdc w W' 2) ∧ W'.cell? ⟨w.heap.size, 3, none⟩ = some (rdc w W' 3) ∧ W'.cell? ⟨w.heap.size, 4, none⟩ = some (rdc w W' 4) ∧ W'.cell? ⟨w.heap.size, 5, none⟩ = some (rdc w W' 5)) ∧ (W'.frozen? ⟨w.heap.size, 0, none⟩ = false ∧ W'.frozen? ⟨w.heap.size, 1, none⟩ = false ∧ W'.frozen? ⟨w.heap.size, 2, none⟩ = false ∧ W'.frozen? ⟨w.heap.size, 3, none⟩ = false ∧ W'.frozen? ⟨w.heap.size, 4, none⟩ = false ∧ W'.frozen? ⟨w.heap.size, 5, none⟩ = false))) (by kernel_rfl) ((HC0.out.step (Below.refl _ _).drew).all) (fun hHeld => ?_)
      generalize W4.drew = w5 at *
      refine wpAnyH_take (i := 0) (v := ?_) rfl (by kernel_rfl) (by kernel_rfl) (by kernel_rfl) (fun _ _ _ h => h) (Or.inl ⟨by rfl, ?_⟩) (by assumption) ?_
      rotate_left
      · (intro W hSw; (try dsimp only at hSw); go_simp; try with_reducible rfl)
      try simp only [List.getElem_toArray, List.getElem_cons_zero, List.getElem_cons_succ, Act.put, List.setIfInBounds_toArray, List.set_cons_zero, List.set_cons_succ]
      refine wpAnyH_take (i := 1) (v := ?_) rfl (by kernel_rfl) (by kernel_rfl) (by kernel_rfl) (fun _ _ _ h => h) (Or.inl ⟨by rfl, ?_⟩) (by assumption) ?_
      rotate_left
      · (intro W hSw; (try dsimp only at hSw); go_simp; try with_reducible rfl)
      try simp only [List.getElem_toArray, List.getElem_cons_zero, List.getElem_cons_succ, Act.put, List.setIfInBounds_toArray, List.set_cons_zero, List.set_cons_succ]
      refine wpAnyH_take (i := 2) (v := ?_) rfl (by kernel_rfl) (by kernel_rfl) (by kernel_rfl) (fun _ _ _ h => h) (Or.inl ⟨by rfl, ?_⟩) (by assumption) ?_
      rotate_left
      · (intro W hSw; (try dsimp only at hSw); go_simp; try with_reducible rfl)
      try simp only [List.getElem_toArray, List.getElem_cons_zero, List.getElem_cons_succ, Act.put, List.setIfInBounds_toArray, List.set_cons_zero, List.set_cons_succ]
      refine wpAnyH_take (i := 3) (v := ?_) rfl (by kernel_rfl) (by kernel_rfl) (by kernel_rfl) (fun _ _ _ h => h) (Or.inl ⟨by rfl, ?_⟩) (by assumption) ?_
      rotate_left
      · (intro W hSw; (try dsimp only at hSw); go_simp; try with_reducible rfl)
      try simp only [List.getElem_toArray, List.getElem_cons_zero, List.getElem_cons_succ, Act.put, List.setIfInBounds_toArray, List.set_cons_zero, List.set_cons_succ]
      refine wpAnyH_take (i := 4) rfl (by kernel_rfl) (by kernel_rfl) (by kernel_rfl) (fun _ _ _ h => h) (Or.inr ⟨by rfl, rfl⟩) (by assumption) ?_
      try simp only [List.getElem_toArray, List.getElem_cons_zero, List.getElem_cons_succ, Act.put, List.setIfInBounds_toArray, List.set_cons_zero, List.set_cons_succ]
      refine wpAnyH_take (i := 5) rfl (by kernel_rfl) (by kernel_rfl) (by kernel_rfl) (fun _ _ _ h => h) (Or.inr ⟨by rfl, rfl⟩) (by assumption) ?_
      try simp only [List.getElem_toArray, List.getElem_cons_zero, List.getElem_cons_succ, Act.put, List.setIfInBounds_toArray, List.set_cons_zero, List.set_cons_succ]
      refine wpAnyH_take (i := 6) (v := ?_) rfl (by kernel_rfl) (by kernel_rfl) (by kernel_rfl) (fun _ _ _ h => h) (Or.inl ⟨by rfl, ?_⟩) (by assumption) ?_
      rotate_left
      · (intro W hSw; (try dsimp only at hSw); go_simp; try with_reducible rfl)
      try simp only [List.getElem_toArray, List.getElem_cons_zero, List.getElem_cons_succ, Act.put, List.setIfInBounds_toArray, List.set_cons_zero, List.set_cons_succ]
      refine wpAnyH_take (i := 7) (v := ?_) rfl (by kernel_rfl) (by kernel_rfl) (by kernel_rfl) (fun _ _ _ h => h) (Or.inl ⟨by rfl, ?_⟩) (by assumption) ?_
      rotate_left
      · (intro W hSw; (try dsimp only at hSw); go_simp; try with_reducible rfl)
      try simp only [List.getElem_toArray, List.getElem_cons_zero, List.getElem_cons_succ, Act.put, List.setIfInBounds_toArray, List.set_cons_zero, List.set_cons_succ]
      refine wpAnyH_take (i := 8) rfl (by kernel_rfl) (by kernel_rfl) (by kernel_rfl) (fun _ _ _ h => h) (Or.inr ⟨by rfl, rfl⟩) (by assumption) ?_
      try simp only [List.getElem_toArray, List.getElem_cons_zero, List.getElem_cons_succ, Act.put, List.setIfInBounds_toArray, List.set_cons_zero, List.set_cons_succ]
      refine wpAnyH_take (i := 9) rfl (by kernel_rfl) (by kernel_rfl) (by kernel_rfl) (fun _ _ _ h => h) (Or.inr ⟨by rfl, rfl⟩) (by assumption) ?_
      try simp only [List.getElem_toArray, List.getElem_cons_zero, List.getElem_cons_succ, Act.put, List.setIfInBounds_toArray, List.set_cons_zero, List.set_cons_succ]
      refine wpAnyH_take (i := 10) (v := ?_) rfl (by kernel_rfl) (by kernel_rfl) (by kernel_rfl) (fun _ _ _ h => h) (Or.inl ⟨by rfl, ?_⟩) (by assumption) ?_
      rotate_left
      · (intro W hSw; (try dsimp only at hSw); go_simp; try with_reducible rfl)
      try simp only [List.getElem_toArray, List.getElem_cons_zero, List.getElem_cons_succ, Act.put, List.setIfInBounds_toArray, List.set_cons_zero, List.set_cons_succ]
      refine wpAnyH_take (i := 11) (v := ?_) rfl (by kernel_rfl) (by kernel_rfl) (by kernel_rfl) (fun _ _ _ h => h) (Or.inl ⟨by rfl, ?_⟩) (by assumption) ?_
      rotate_left
      · (intro W hSw; (try dsimp only at hSw); go_simp; try with_reducible rfl)
      try simp only [List.getElem_toArray, List.getElem_cons_zero, List.getElem_cons_succ, Act.put, List.setIfInBounds_toArray, List.set_cons_zero, List.set_cons_succ]
      refine wpAnyH_take (i := 12) rfl (by kernel_rfl) (by kernel_rfl) (by kernel_rfl) (fun _ _ _ h => h) (Or.inr ⟨by rfl, rfl⟩) (by assumption) ?_
      try simp only [List.getElem_toArray, List.getElem_cons_zero, List.getElem_cons_succ, Act.put, List.setIfInBounds_toArray, List.set_cons_zero, List.set_cons_succ]
      refine wpAnyH_take (i := 13) rfl (by kernel_rfl) (by kernel_rfl) (by kernel_rfl) (fun _ _ _ h => h) (Or.inr ⟨by rfl, rfl⟩) (by assumption) ?_
      try simp only [List.getElem_toArray, List.getElem_cons_zero, List.getElem_cons_succ, Act.put, List.setIfInBounds_toArray, List.set_cons_zero, List.set_cons_succ]
      refine wpAnyH_take (i := 14) rfl (by kernel_rfl) (by kernel_rfl) (by kernel_rfl) (fun _ _ _ h => h) (Or.inr ⟨by rfl, rfl⟩) (by assumption) ?_
      try simp only [List.getElem_toArray, List.getElem_cons_zero, List.getElem_cons_succ, Act.put, List.setIfInBounds_toArray, List.set_cons_zero, List.set_cons_succ]
      refine wpAnyH_take (i := 15) rfl (by kernel_rfl) (by kernel_rfl) (by kernel_rfl) (fun _ _ _ h => h) (Or.inr ⟨by rfl, rfl⟩) (by assumption) ?_
      try simp only [List.getElem_toArray, List.getElem_cons_zero, List.getElem_cons_succ, Act.put, List.setIfInBounds_toArray, List.set_cons_zero, List.set_cons_succ]
      refine wpAnyH_take (i := 16) (v := ?_) rfl (by kernel_rfl) (by kernel_rfl) (by kernel_rfl) (fun _ _ _ h => h) (Or.inl ⟨by rfl, ?_⟩) (by assumption) ?_
      rotate_left
      · (intro W hSw; (try dsimp only at hSw); go_simp; try with_reducible rfl)
      try simp only [List.getElem_toArray, List.getElem_cons_zero, List.getElem_cons_succ, Act.put, List.setIfInBounds_toArray, List.set_cons_zero, List.set_cons_succ]
      have hbz := hHeld.1
      refine wpAnyH_ready (rs := [17]) (by kernel_rfl) (by simp) ?_
      refine AllReadyH.cons rfl (fun K hK => ?_) AllReadyH.nil
      obtain ⟨_, _, ⟨j0, j1, j2, j3, j4, j5⟩, ⟨i0, i1, i2, i3, i4, i5⟩⟩ := hHeld
      go_simp
      refine hK.out _ _ ?_ (fun hHeld => ?_)
      · (try dsimp only); exact (hbz.six ⟨x0, x1, n2, n3, x4, x5⟩).all
      clear hK K
      try simp only [List.getElem_toArray, List.getElem_cons_zero, List.getElem_cons_succ, Act.put, List.setIfInBounds_toArray, List.set_cons_zero, List.set_cons_succ]
      refine wpAnyH_take (i := 18) (v := ?_) rfl (by kernel_rfl) (by kernel_rfl) (by kernel_rfl) (fun _ _ _ h => h) (Or.inl ⟨by rfl, ?_⟩) (by assumption) ?_
      rotate_left
      · (intro W hSw; (try dsimp only at hSw); go_simp; try with_reducible rfl)
      try simp only [List.getElem_toArray, List.getElem_cons_zero, List.getElem_cons_succ, Act.put, List.setIfInBounds_toArray, List.set_cons_zero, List.set_cons_succ]
      refine wpAnyH_done (by kernel_rfl) ?_ _
      obtain ⟨g, hg⟩ := hbz.row
      go_wp2
      exact leave16 w.heap.size rfl rfl (sixW_at hg ⟨x0, x1, n2, n3, x4, x5⟩) ⟨_, false, rfl, sixW_below hbz.below (Nat.le_refl _) _ _ _ _ _ _, (fun h => by cases h), fun _ => HNO.out⟩
  · have h61 : ((X.length : Int) != 6) = true := by
      simp; omega
    have HNO : Hid (∀ v, ¬ IsLine s.data.toList v) := Lib.hid (fun v h => by
      have := congrArg List.length (HD.out v h)
      simp at this
      exact h6 this)
    obtain ⟨⟨e0, e1, e2, e3, e4, e5⟩, ⟨z0, z1, z2, z3, z4, z5⟩⟩ := six_facts HH1.out
    go_wp2
    exact leave16 w.heap.size rfl rfl (sixW_at HH1.out zeroU) ⟨zeroU, false, rfl, sixW_below HB1.out (Nat.le_refl _) _ _ _ _ _ _, (fun h => by cases h), fun _ => HNO.out⟩
end Go.Proofs.Pw
/- Users in a row of the call's own; Parse. -/
namespace Go.Proofs.Pw
open Go.RowKit

def cellsU (L : List UserS) : List Value := L.flatMap (fun u => (userC u).toList)
theorem cellsU_nil : cellsU [] = [] := rfl
theorem cellsU_cons (u : UserS) (L : List UserS) : cellsU (u :: L) = (userC u).toList ++ cellsU L := by simp [cellsU]
theorem cellsU_snoc (L : List UserS) (u : UserS) : cellsU (L ++ [u]) = cellsU L ++ (userC u).toList := by simp [cellsU]
theorem userC_len (u : UserS) : (userC u).toList.length = 6 := rfl
theorem cellsU_len : ∀ L : List UserS, (cellsU L).length = L.length * 6
  | [] => rfl
  | u :: L => by rw [cellsU_cons, List.length_append, userC_len, cellsU_len L, List.length_cons]; omega
theorem cellsU_at : ∀ (L : List UserS) (j : Nat) (hj : j < L.length) (i : Nat), i < 6 → (cellsU L)[j * 6 + i]? = (userC L[j])[i]?
  | [], j, hj, _, _ => absurd hj (Nat.not_lt_zero j)
  | u :: L, 0, _, i, hi => by
    rw [cellsU_cons, Nat.zero_mul, Nat.zero_add, List.getElem?_append_left (by rw [userC_len]; exact hi)]
    simp
  | u :: L, j + 1, hj, i, hi => by
    rw [cellsU_cons, List.getElem?_append_right (by rw [userC_len]; omega), userC_len, show (j + 1) * 6 + i - 6 = j * 6 + i by omega]
    have := cellsU_at L j (by simpa using hj) i hi
    simpa using this
theorem own_inU {w : World} {B : Nat} {v : Value} {L : List UserS} (h : w.ownsRow B 47 6 v L.length (cellsU L)) : InU w v L := by
  obtain ⟨hl, h2⟩ := h
  rcases h2 with ⟨rfl, h0⟩ | ⟨g, cap, cur, rfl, hB, hg, hcap, hmax, hsz, htake⟩
  · refine ⟨none, 0, by rw [h0], fun j hj => by omega⟩
  · refine ⟨some ⟨g, 0, none⟩, cap, rfl, fun j hj => ⟨g, 0, rfl, fun i hi => ?_⟩⟩
    rw [heap_cell hg, ← cellsU_at L j hj i hi, ← htake, List.getElem?_take, if_pos (by omega)]
    simp
def OwnU (w : World) (B : Nat) (v : Value) (L : List UserS) : Prop := w.ownsRow B 47 6 v L.length (cellsU L)
theorem OwnU.form {w : World} {B : Nat} {v : Value} {L : List UserS} (h : OwnU w B v L) : ∃ a c, v = .slice a L.length c := by
  obtain ⟨_, ⟨rfl, h0⟩ | ⟨g, cap, cur, rfl, _⟩⟩ := h
  · exact ⟨_, 0, by rw [h0]⟩
  · exact ⟨_, _, rfl⟩
theorem OwnU.grown {w w' : World} {B : Nat} {v : Value} {L : List UserS} (h : OwnU w B v L) (hb : Below w.heap.size w w') : OwnU w' B v L := own_below h hb
/-- What Parse tells. -/
noncomputable def parseR (t : Bytes) : List UserS × Nat × Int :=
  if 4096 < t.length then ([], 0, 10) else match parseL [] 1 t with
    | .ok L => (L, 0, 0)
    | .error (n, e) => ([], n, e)
theorem find_mem (x : ByteArray) (L : List UserS) : (0 ≤ findU (isName x) L 0) ↔ x ∈ namesU L := by
  rcases findU_cases (isName x) L with ⟨h1, h2⟩ | ⟨k, hk, h1, h2, h3⟩
  · rw [h1]
    refine ⟨fun h => by omega, fun h => ?_⟩
    unfold namesU at h
    obtain ⟨u, hu, rfl⟩ := List.mem_map.1 h
    have := h2 u hu
    simp [isName] at this
  · rw [h3]
    refine ⟨fun _ => ?_, fun _ => by omega⟩
    unfold isName at h1
    have h1' : L[k].name = x := by simpa using h1
    exact List.mem_map.2 ⟨L[k], List.getElem_mem _, h1'⟩
theorem info33 : (Tryz.prog.info? 47).map (fun i => (i.zero, i.size, i.bytes)) = some (some (.agg (userC zeroU)), 6, 80) := by kernel_rfl
theorem own_ge {w : World} {base sz n : Nat} {e : TypeId} {v : Value} {xs : List Value} (h : w.ownsRow base e sz v n xs) : ∀ k, v.ownBlock = some k → base ≤ k := fun k hk => (h.lt k hk).1
theorem below_grown {w0 w w' : World} {B : Nat} {row : Option Nat} (h : Below B w0 w) (hB : B ≤ w0.heap.size) (hg : w.grownBy w' row) (hrow : ∀ k, row = some k → B ≤ k) : Below B w0 w' :=
  ⟨hg.os.trans h.os, hg.tape.trans h.tape, hg.output.trans h.output, Nat.le_trans h.size hg.size, fun j hj => (hg.block j (Nat.lt_of_lt_of_le hj (Nat.le_trans hB h.size)) (fun e => by have := hrow j e.symm; omega)).trans (h.block j hj)⟩
def strSz : Value → Nat
  | .string s => s.size
  | _ => 0
theorem parse_long {t : Bytes} (h : 4096 < t.length) : parseR t = ([], 0, 10) := by unfold parseR; rw [if_pos h]
theorem parse_err {t : Bytes} (h : ¬ 4096 < t.length) {n : Nat} {e : Int} (hp : parseL [] 1 t = .error (n, e)) : parseR t = ([], n, e) := by unfold parseR; rw [if_neg h, hp]
theorem parse_ok {t : Bytes} (h : ¬ 4096 < t.length) {L : List UserS} (hp : parseL [] 1 t = .ok L) : parseR t = (L, 0, 0) := by unfold parseR; rw [if_neg h, hp]
def ParseP (s : ByteArray) (w : World) (e : Ending) (w' : World) : Prop :=
  ∃ v, e = .returned (.tuple #[v, .int .i64 (parseR s.data.toList).2.1, .int .i64 (parseR s.data.toList).2.2]) ∧ OwnU w' w.heap.size v (parseR s.data.toList).1 ∧ Below w.heap.size w w'
theorem parseP_err {s : ByteArray} {w w' : World} {n : Nat} {e : Int} (h : parseR s.data.toList = ([], n, e)) (hb : Below w.heap.size w w') {E : Ending} (hE : E = .returned (.tuple #[.slice none 0 0, .int .i64 n, .int .i64 e])) : ParseP s w E w' :=
  ⟨.slice none 0 0, by rw [hE, h], by rw [h]; exact World.ownsRow_nil _ _ _ _, hb⟩
theorem parseP_ok {s : ByteArray} {w w' : World} {L : List UserS} {v : Value} (h : parseR s.data.toList = (L, 0, 0)) (ho : OwnU w' w.heap.size v L) (hb : Below w.heap.size w w') {E : Ending} (hE : E = .returned (.tuple #[v, .int .i64 0, .int .i64 0])) : ParseP s w E w' :=
  ⟨v, by rw [hE, h]; rfl, by rw [h]; exact ho, hb⟩
theorem six_new (W : World) (C : Array Value) (T : TypeId) (f : Nat × Nat) (j : Nat) (x : Value) (h : C.toList[j]? = some x) : (W.alloc (.cells C T f)).cell? ((⟨W.heap.size, 0, none⟩ : Addr).add j) = some x := by
  have hadd : (⟨W.heap.size, 0, none⟩ : Addr).add j = ⟨W.heap.size, j, none⟩ := by unfold Addr.add; split <;> simp_all
  rw [hadd, heap_cell (at_new W _) j]
  simpa using h
theorem OwnU.snoc {w : World} {B : Nat} {v : Value} {L : List UserS} {u : UserS} (h : w.ownsRow B 47 6 v (L.length + 1) (cellsU L ++ (userC u).toList)) : OwnU w B v (L ++ [u]) := by
  unfold OwnU
  rw [cellsU_snoc, List.length_append]
  exact h
/-- One round of Parse. -/
theorem round_bad {t a b : ByteArray} {ok : Bool} {L : List UserS} {n : Nat} (h0 : 0 < t.size)
    (hc : (ok = true ∧ t.data.toList = a.data.toList ++ 10 :: b.data.toList ∧ 10 ∉ a.data.toList) ∨ (ok = false ∧ 10 ∉ t.data.toList ∧ a = t ∧ b = ⟨#[]⟩))
    (h : (∀ v, ¬ IsLine a.data.toList v) ∨ ok = false) : parseL L n t.data.toList = .error (n, 17) := by
  have hne : t.data.toList ≠ [] := fun e => by have := sz t; rw [e] at this; simp at this; omega
  rcases hc with ⟨rfl, h1, h2⟩ | ⟨rfl, h1, rfl, rfl⟩
  · rcases h with h | h
    · exact parseL_bad hne (by rw [h1, lineOf_app h2]; exact h)
    · cases h
  · exact parseL_last hne h1
open Classical in
theorem round_line {t a b : ByteArray} {L : List UserS} {n : Nat} {u : UserS} (hc : t.data.toList = a.data.toList ++ 10 :: b.data.toList) (h : IsLine a.data.toList u) :
    parseL L n t.data.toList = if u.name ∈ namesU L then .error (n, 5) else if L.length = 8 then .error (n, 12) else parseL (L ++ [u]) (n + 1) b.data.toList := by
  rw [hc, ← h.2, parseL_step h.1]
theorem emp_iff (s : ByteArray) : s.toList.isEmpty = decide (s.size = 0) := by
  rw [toList_data]
  cases hh : s.data.toList with
  | nil => have := sz s; rw [hh] at this; simp at this; rw [decide_eq_true this.symm]; rfl
  | cons c l => have := sz s; rw [hh] at this; simp at this; rw [decide_eq_false (by omega)]; rfl
set_option maxHeartbeats 4000000 in
set_option maxRecDepth 100000 in
theorem parse_any (s : ByteArray) (w : World) (hW : HasW w) : Calls Tryz.prog 129 #[.string s] w (ParseP s w) := by
  have HW := Lib.hid hW
  clear hW
  by_cases hlong : 4096 < s.size
  · have hl1 : (4096 : Int) < s.size := by omega
    have HP : Hid (parseR s.data.toList = ([], 0, 10)) := Lib.hid (parse_long (by rw [sz]; exact hlong))
    clear hlong
    go_enter Tryz.func129, Tryz.ntmps129
    go_wp2
    exact bodyPost_ret (v := .tuple #[.slice none 0 0, .int .i64 0, .int .i64 10]) (by simp [results, Tryz.results129, go_sem]) rfl (parseP_err HP.out (Below.refl _ _) rfl)
  · have hl1 : ¬ (4096 : Int) < s.size := by omega
    have HE := Lib.hid (fun n e (h : parseL [] 1 s.data.toList = .error (n, e)) => parse_err (by rw [sz]; exact hlong) h)
    have HK := Lib.hid (fun L (h : parseL [] 1 s.data.toList = .ok L) => parse_ok (by rw [sz]; exact hlong) h)
    have hs : s.size ≤ 4096 := by omega
    obtain ⟨i0, hi, hz0, hz1, hz4⟩ := info_parts info33
    clear hlong
    go_enter Tryz.func129, Tryz.ntmps129
    go_wp2
    go_loopw [0, 5, 6, 7, 8, 9, 10, 11] (fun v0 v5 v6 v7 v8 v9 v10 v11 wr => ∃ (t : ByteArray) (L : List UserS) (n : Nat), v0 = .string t ∧ v6 = .int .i64 n ∧ n + t.size ≤ s.size + 1 ∧ L.length ≤ 8 ∧ Hid (OwnU wr w.heap.size v5 L ∧ Below w.heap.size w wr ∧ parseL L n t.data.toList = parseL [] 1 s.data.toList)) (fun v0 v5 v6 v7 v8 v9 v10 v11 _ => strSz v0)
    case atStart => exact ⟨s, [], 1, rfl, rfl, by omega, by simp, Lib.hid ⟨World.ownsRow_nil _ _ _ _, Below.refl _ _, rfl⟩⟩
    case round =>
      obtain ⟨t, L, n, rfl, rfl, hn, hL, HH⟩ := hrel
      obtain ⟨la, lc, rfl⟩ := HH.out.1.form
      have he := emp_iff t
      by_cases ht : t.size = 0
      · rw [decide_eq_true ht] at he
        have HT : Hid (parseL [] 1 s.data.toList = .ok L) := Lib.hid (by
          rw [← HH.out.2.2]
          have : t.data.toList = [] := List.length_eq_zero_iff.1 (by rw [sz]; exact ht)
          rw [this, parseL_nil])
        clear ht
        go_wp2
        exact bodyPost_ret (v := .tuple #[.slice la L.length lc, .int .i64 0, .int .i64 0]) (by simp [results, Tryz.results129, go_sem]) rfl (parseP_ok (HK.out _ HT.out) HH.out.1 HH.out.2.1 rfl)
      · rw [decide_eq_false ht] at he
        have ht0 : 0 < t.size := by omega
        clear ht
        go_wp2_with fail
        refine (cut_any 10 t _ (by omega)).mono ?_
        rintro e w1 ⟨a, b, ok, rfl, ⟨k, rfl⟩, ha, hb, hc⟩
        have HCUT := Lib.hid hc
        have hB1 := drewN_below (Below.refl wr.heap.size wr) k
        have HB1 := Lib.hid (HH.out.2.1.trans (hB1.mono HH.out.2.1.size))
        have HO1 := Lib.hid (HH.out.1.grown hB1)
        clear hc hB1
        generalize wr.drewN k = W1 at *
        go_wp2_with fail
        refine (read_any a W1 (by omega) (HW.out.below HB1.out)).mono ?_
        rintro e w2 ⟨u, ok2, rfl, hb2, h1, h2⟩
        have HB2 := Lib.hid (HB1.out.trans (hb2.mono HB1.out.size))
        have HO2 := Lib.hid (HO1.out.grown hb2)
        have H1 := Lib.hid h1
        have H2 := Lib.hid h2
        clear hb2 h1 h2 HB1 HO1
        unfold userC
        cases ok2 with
        | false =>
          have HR := Lib.hid (HE.out n 17 (by rw [← HH.out.2.2]; exact round_bad ht0 HCUT.out (.inl (H2.out rfl))))
          go_wp2
          exact bodyPost_ret (v := .tuple #[.slice none 0 0, .int .i64 n, .int .i64 17]) (by simp [results, Tryz.results129, go_sem]) rfl (parseP_err HR.out (HB2.out.alloc HB2.out.size _) rfl)
        | true =>
          cases ok with
          | false =>
            have HR := Lib.hid (HE.out n 17 (by rw [← HH.out.2.2]; exact round_bad ht0 HCUT.out (.inr rfl)))
            go_wp2
            exact bodyPost_ret (v := .tuple #[.slice none 0 0, .int .i64 n, .int .i64 17]) (by simp [results, Tryz.results129, go_sem]) rfl (parseP_err HR.out (HB2.out.alloc HB2.out.size _) rfl)
          | true =>
            have h3 : t.data.toList = a.data.toList ++ 10 :: b.data.toList := by
              rcases HCUT.out with ⟨_, h, _⟩ | ⟨h, _⟩
              · exact h
              · cases h
            have hsz : b.size + 1 ≤ t.size := by
              have := congrArg List.length h3
              rw [List.length_append, List.length_cons, sz, sz, sz] at this
              omega
            have HSTEP := Lib.hid (round_line (L := L) (n := n) h3 (H1.out rfl))
            clear h3 HCUT H1 H2
            go_upto_region 11 with fail
            have hw4 : Below w2.heap.size w2 (w2.alloc (.cells (userC u) 47)) := (Below.refl _ _).alloc (Nat.le_refl _) _
            have hu4 : UC (w2.alloc (.cells (userC u) 47)) w2.heap.size 0 u := box_six (u := 47) (Below.refl _ _)
            have HB4 := Lib.hid (HB2.out.trans (hw4.mono HB2.out.size))
            have HO4 := Lib.hid (HO2.out.grown hw4)
            clear hw4
            have hW : ∃ W4, w2.alloc (.cells (userC u) 47) = W4 := ⟨_, rfl⟩
            obtain ⟨W4, hW4⟩ := hW
            rw [hW4] at hu4 HB4 HO4
            have hW4' : w2.alloc (.cells #[.string u.name, .string u.pass, .int .i64 u.id, .int .i64 u.group, .string u.home, .string u.shell] 47) = W4 := hW4
            rw [hW4']
            have HU4 := Lib.hid hu4
            obtain ⟨c0, c1, c2, c3, c4, c5⟩ := hu4.at0
            clear hu4 hW4 hW4'
            go_wp2_with fail
            refine (at_any _ L u.name W4 (own_inU HO4.out) (by omega)).mono ?_
            rintro e w5 ⟨rfl, hb5⟩
            have HB5 := Lib.hid (HB4.out.trans (hb5.mono HB4.out.size))
            have HO5 := Lib.hid (HO4.out.grown hb5)
            have hu5 := HU4.out.below hb5
            clear hb5 c0 c1 c2 c3 c4 c5 HB4 HO4 HU4
            have HFM := Lib.hid (find_mem u.name L)
            obtain ⟨q, hq⟩ : ∃ q, findU (isName u.name) L 0 = q := ⟨_, rfl⟩
            rw [hq] at HFM ⊢
            clear hq
            by_cases hq0 : 0 ≤ q
            · have HR := Lib.hid (HE.out n 5 (by rw [← HH.out.2.2, HSTEP.out, if_pos (HFM.out.1 hq0)]))
              go_wp2
              exact bodyPost_ret (v := .tuple #[.slice none 0 0, .int .i64 n, .int .i64 5]) (by simp [results, Tryz.results129, go_sem]) rfl (parseP_err HR.out HB5.out rfl)
            · have hnm : u.name ∉ namesU L := fun h => hq0 (HFM.out.2 h)
              by_cases h8 : L.length = 8
              · have HR := Lib.hid (HE.out n 12 (by rw [← HH.out.2.2, HSTEP.out, if_neg hnm, if_pos h8]))
                have h81 : ((L.length : Int) == 8) = true := by rw [h8]; rfl
                clear hnm h8
                go_wp2
                exact bodyPost_ret (v := .tuple #[.slice none 0 0, .int .i64 n, .int .i64 12]) (by simp [results, Tryz.results129, go_sem]) rfl (parseP_err HR.out HB5.out rfl)
              · have HR := Lib.hid (show parseL (L ++ [u]) (n + 1) b.data.toList = parseL [] 1 s.data.toList by rw [← HH.out.2.2, HSTEP.out, if_neg hnm, if_neg h8])
                have h81 : ((L.length : Int) == 8) = false := by
                  cases hh : ((L.length : Int) == 8) with
                  | false => rfl
                  | true => simp at hh; omega
                have hL7 : L.length ≤ 7 := by omega
                clear hnm h8
                obtain ⟨c0, c1, c2, c3, c4, c5⟩ := hu5.at0
                clear hu5
                have HNAT := Lib.hid (show n + t.size ≤ s.size + 1 ∧ b.size + 1 ≤ t.size ∧ L.length ≤ 7 ∧ s.size ≤ 4096 from ⟨hn, hsz, hL7, hs⟩)
                clear hn hsz hL hL7 hs hl1 ht0 ha hb
                go_wp2_with (at_builtin; refine wpList_append_own _ rfl _ _ 44 rfl w.heap.size 47 i0 (.agg (userC zeroU)) 6 80 Tryz.underlying44 hi hz0 hz1 hz4 rfl (by decide) _ _ _ rfl (own_below HO5.out ((Below.refl _ _).alloc (Nat.le_refl _) _)) ⟨_, 0, none⟩ 1 1 [.string u.name, .string u.pass, .int .i64 u.id, .int .i64 u.group, .string u.home, .string u.shell] rfl rfl (six_new _ _ _ _) (by simp [Value.oneCell']) (by unfold maxLen; have := HNAT.out; omega) (by have := HNAT.out; omega) (by have := HB5.out.size; simp; omega) ?_; intro v' w6 hown' hgrow _)
                have HO6 := Lib.hid (OwnU.snoc hown')
                have HB6 := Lib.hid (below_grown (HB5.out.alloc HB5.out.size _) (Nat.le_refl _) hgrow (own_ge HO5.out))
                clear hown' hgrow c0 c1 c2 c3 c4 c5
                go_wp2
                obtain ⟨hn, hsz, hL7, hs⟩ := HNAT.out
                have hwr : wrap64 ((n : Int) + 1) = ((n + 1 : Nat) : Int) := by unfold wrap64; omega
                go_roundw
                case rel => exact ⟨b, L ++ [u], n + 1, rfl, by rw [hwr], by omega, by simp; omega, Lib.hid ⟨HO6.out, HB6.out, HR.out⟩⟩
                case measure => simp [strSz]; omega
end Go.Proofs.Pw
/- users: who there is, read. -/
namespace Go.Proofs.YtlhlehdajkoogaaGreatDoor
open Go.RowKit

abbrev UT : TypeId := 124
def sPasswd : ByteArray := ⟨#[47, 101, 116, 99, 47, 112, 97, 115, 115, 119, 100]⟩
def sNoUsers : ByteArray := ⟨#[110, 111, 32, 117, 115, 101, 114, 115]⟩
/-- A machine that opens the file of users. -/
def OpenS (f : Value) (m : Ma) (w : World) : Prop := ∃ b bt, MustS { op := 2, path := sPasswd, want := 4 } (.func (.func 163) #[] #[.pointer (some ⟨b, 0, none⟩)]) (.func (.func 126) #[] #[.pointer (some ⟨bt, 0, none⟩)]) m w ∧ w.heap[b]? = some (.cells #[.string sNoUsers] 9 (0, 0)) ∧ w.heap[bt]? = some (.cells #[f] UT (0, 0))
theorem OpenS.kr {q : Nat} {f : Value} {m : Ma} {w w' : World} (h : OpenS f m w) (k : Kr q w w') : OpenS f m w' := by
  obtain ⟨b, bt, h1, h2, h3⟩ := h
  exact ⟨b, bt, h1.kr k, k.get h2, k.get h3⟩
/-- A machine that reads the file of users. -/
def UsS (fd : Int) (s : ByteArray) (f : Value) (m : Ma) (w : World) : Prop := ∃ bt, SlurpS fd s (.func (.func 128) #[] #[.pointer (some ⟨bt, 0, none⟩)]) m w ∧ w.heap[bt]? = some (.cells #[f] UT (0, 0))
theorem UsS.kr {q : Nat} {fd : Int} {s : ByteArray} {f : Value} {m : Ma} {w w' : World} (h : UsS fd s f m w) (k : Kr q w w') : UsS fd s f m w' := by
  obtain ⟨bt, h1, h2⟩ := h
  exact ⟨bt, h1.kr k, k.get h2⟩
/-- A machine that closes the file of users. -/
def UcS (fd : Int) (s : ByteArray) (f : Value) (m : Ma) (w : World) : Prop := ∃ bt, ClosS fd s (.func (.func 128) #[] #[.pointer (some ⟨bt, 0, none⟩)]) m w ∧ w.heap[bt]? = some (.cells #[f] UT (0, 0))
theorem UcS.kr {q : Nat} {fd : Int} {s : ByteArray} {f : Value} {m : Ma} {w w' : World} (h : UcS fd s f m w) (k : Kr q w w') : UcS fd s f m w' := by
  obtain ⟨bt, h1, h2⟩ := h
  exact ⟨bt, h1.kr k, k.get h2⟩
set_option maxRecDepth 100000 in
set_option maxHeartbeats 4000000 in
theorem users_any {w : World} {p : Nat} {m : Ma} (h : M w p m) (ho : m.over = false) (fn : Fn) (fi ca : Array Value) :
    Calls Tryz.prog 76 #[.pointer (some ⟨p, 0, none⟩), .func fn fi ca] w (ThP p w (Kst m (OpenS (.func fn fi ca)))) := by
  have hmf : ∀ (fn : Fn) (first cap : Array Value) (w : World), (Instr.makeFunc fn first cap).run Tryz.prog w = .ok (.func fn first cap) w := fun _ _ _ _ => rfl
  obtain ⟨W, hW, h1, hb, hsz⟩ := boxes1 w #[.func fn fi ca] UT
  have HM := Lib.hid (h.below hb)
  have HO := Lib.hid ho
  have HT := Lib.hid h1
  have HMO := Lib.hid (Mo.of (b := p) hb)
  unfold UT at hW
  clear h ho h1 hb hsz
  go_enter Tryz.func76, Tryz.ntmps76
  go_wp2_with fail
  refine (says_any _).mono ?_
  rintro e w1 ⟨rfl, rfl⟩
  obtain ⟨W1, hW1, hx, hb1, _⟩ := boxes1 W #[.string sNoUsers] 9
  unfold sNoUsers at hW1
  rw [hW1]
  have HM1 := Lib.hid (HM.out.below hb1)
  have HX := Lib.hid hx
  have HT1 := Lib.hid ((Kb.below hb1).get HT.out)
  have HMO1 := Lib.hid (HMO.out.below hb1)
  clear hb1 hx HM HT HMO hW1 hW
  go_wp2_with fail
  refine (must_any HM1.out HO.out { op := 2, path := sPasswd, want := 4 } rfl rfl _ _ _ _ _ _).mono ?_
  intro e w2 h
  obtain rfl := h.end
  have H := Lib.hid ((h.more HM1.out (R1 := Kst m (OpenS (.func fn fi ca))) fun m' w' k hh => ⟨hh.1, _, _, hh.2, k.get HX.out, k.get HT1.out⟩).pre HMO1.out)
  clear h
  go_wp2
  exact bodyPost_end (results_none rfl _ _ _) rfl H.out
set_option maxRecDepth 100000 in
set_option maxHeartbeats 4000000 in
theorem users1_any {w : World} {p : Nat} {m : Ma} (h : M w p m) (ho : m.over = false) {f : Value} {bt : Nat} (h2 : w.heap[bt]? = some (.cells #[f] UT (0, 0))) (r : An) :
    Calls Tryz.prog 126 #[.pointer (some ⟨p, 0, none⟩), .agg r.cells, .pointer (some ⟨bt, 0, none⟩)] w (ThP p w (Kst m (UsS r.n ⟨#[]⟩ f))) := by
  have hmf : ∀ (fn : Fn) (first cap : Array Value) (w : World), (Instr.makeFunc fn first cap).run Tryz.prog w = .ok (.func fn first cap) w := fun _ _ _ _ => rfl
  obtain ⟨C, hC⟩ : ∃ C, r.cells = C := ⟨_, rfl⟩
  have hN : C[1]? = some (.int .i64 r.n) := by rw [← hC]; rfl
  rw [hC]
  obtain ⟨W, hW, ha, hb, _⟩ := boxes1 w C 35
  have k := Kb.below hb
  have x1 : W.cell? ⟨w.heap.size, 1, none⟩ = some (.int .i64 r.n) := (cell_of ha 1).trans hN
  have HM := Lib.hid (h.below hb)
  have HO := Lib.hid ho
  have HT := Lib.hid (k.get h2)
  have HMO := Lib.hid (Mo.of (b := p) hb)
  clear h ho h2 hb hC k ha hN
  go_enter Tryz.func126, Tryz.ntmps126
  go_wp2_with fail
  refine (slurp_any HM.out HO.out r.n ⟨#[]⟩ (Nat.zero_le _) _ _ _).mono ?_
  intro e w2 h
  obtain rfl := h.end
  have H := Lib.hid ((h.more HM.out (R1 := Kst m (UsS r.n ⟨#[]⟩ f)) fun m' w' k hh => ⟨hh.1, _, hh.2, k.get HT.out⟩).pre HMO.out)
  clear h
  go_wp2
  exact bodyPost_end (results_none rfl _ _ _) rfl H.out
set_option maxRecDepth 100000 in
set_option maxHeartbeats 4000000 in
/-- Users that are right. -/
theorem users2_any {w : World} {p bt : Nat} (hW : Pw.HasW w) {k : FuncId} {ca : Array Value} (h2 : w.heap[bt]? = some (.cells #[.func (.func k) #[] ca] UT (0, 0))) (s : ByteArray) {L : List Pw.UserS} (hs : ¬ 4096 < s.data.toList.length) (hL : Pw.parseL [] 1 s.data.toList = .ok L) (hen : Enters k)
    {R : Ma → World → Prop} (hk : ∀ w1 v, Below w.heap.size w w1 → Pw.InU w1 v L → Calls Tryz.prog k (#[.pointer (some ⟨p, 0, none⟩), v] ++ ca) w1 (ThP p w1 R)) :
    Calls Tryz.prog 128 #[.pointer (some ⟨p, 0, none⟩), .string s, .pointer (some ⟨bt, 0, none⟩)] w (ThP p w R) := by
  have HP := Lib.hid (Pw.parse_any s w hW)
  have HQ := Lib.hid (Pw.parse_ok hs hL)
  have HK := Lib.hid hk
  have H2 := Lib.hid h2
  clear hW hs hL hk h2
  go_enter Tryz.func128, Tryz.ntmps128
  go_wp2_with fail
  refine HP.out.mono ?_
  rintro e w1 ⟨v, rfl, hown, hb⟩
  rw [HQ.out] at hown ⊢
  have x0 : w1.cell? ⟨bt, 0, none⟩ = some (.func (.func k) #[] ca) := cell_of ((Kb.below hb).get H2.out) 0
  have HC := Lib.hid (HK.out w1 v hb (Pw.own_inU hown))
  have HMO := Lib.hid (Mo.of (b := p) hb)
  clear HP HQ HK H2 hown hb
  go_wp2_with fail
  refine HC.out.mono ?_
  intro e w2 h
  obtain rfl := h.end
  have H := Lib.hid (h.pre HMO.out)
  clear h
  go_wp2
  exact bodyPost_end (results_none rfl _ _ _) rfl H.out
/-- A function value that goes on to R with the users L. -/
def Ut (c : Cx) (L : List Pw.UserS) (R : Ma → World → Prop) (f : Value) (w : World) : Prop :=
  ∃ k ca, f = .func (.func k) #[] ca ∧ Enters k ∧ ∀ w1 m v, Pw.InU w1 v L → Kr c.q w w1 → Gx c w1 m → Calls Tryz.prog k (#[.pointer (some ⟨c.p, 0, none⟩), v] ++ ca) w1 (ThP c.p w1 (Kst m R))
theorem Ut.kr {c : Cx} {L : List Pw.UserS} {R : Ma → World → Prop} {f : Value} {w w' : World} (h : Ut c L R f w) (k : Kr c.q w w') : Ut c L R f w' := by
  obtain ⟨fn, ca, h1, h2, h3⟩ := h
  exact ⟨fn, ca, h1, h2, fun w1 m v hv k1 => h3 w1 m v hv (k.trans k1)⟩
theorem en_users1 : Enters 126 := enter_of Tryz.func126 (by kernel_rfl) rfl
theorem en_users2 : Enters 128 := enter_of Tryz.func128 (by kernel_rfl) rfl
theorem en_slurp2 : Enters 166 := enter_of Tryz.func166 (by kernel_rfl) rfl
theorem en_slurp11 : Enters 165 := enter_of Tryz.func165 (by kernel_rfl) rfl
theorem us1_n {c : Cx} {w : World} {l : Nat} {m : Ma} {f : Value} (hr : Run c l w m) (hs : OpenS f m w) (r : An) (he : r.err = 0) :
    Calls Tryz.prog 14 #[.pointer (some ⟨l, 0, none⟩), .agg r.cells] w (NextP c.p w (Kst m (UsS r.n ⟨#[]⟩ f))) := by
  obtain ⟨b, bt, hm, h1, h2⟩ := hs
  obtain ⟨b1, b2, e1, e2, e3⟩ := hm.th
  refine go_next hr hm.over e1 r (fun m' w1 w2 k hh => hh.kr (k.kr 0)) en_must1 fun w1 k1 g => ?_
  refine musted_any (k1.get e3) r he en_users1 fun w2 hb => ?_
  have k2 := k1.trans (Kb.below hb)
  exact users1_any (g.mach.below hb) hm.over (k2.get h2) r
theorem us2_more {c : Cx} {w : World} {l : Nat} {m : Ma} {fd : Int} {s : ByteArray} {f : Value} (hr : Run c l w m) (hs : UsS fd s f m w) (r : An) (he : r.err = 0) (ht : r.text.toList.isEmpty = false) (hz : (s ++ r.text).size ≤ 4096) :
    Calls Tryz.prog 14 #[.pointer (some ⟨l, 0, none⟩), .agg r.cells] w (NextP c.p w (Kst m (UsS fd (s ++ r.text) f))) := by
  obtain ⟨bt, hm, h1⟩ := hs
  obtain ⟨bd, bf, bs, b4, e1, e2, e3⟩ := hm.th
  refine go_next hr hm.over e1 r (fun m' w1 w2 k hh => hh.kr (k.kr 0)) en_slurp2 fun w1 k1 g => ?_
  exact (slurped_more g.mach hm.over (e3.kb k1) r he ht hz).mono fun e w2 h => h.more g.mach fun m' w' k hh => ⟨hh.1, bt, hh.2, k.get (k1.get h1)⟩
theorem us2_end {c : Cx} {w : World} {l : Nat} {m : Ma} {fd : Int} {s : ByteArray} {f : Value} (hr : Run c l w m) (hs : UsS fd s f m w) (r : An) (he : r.err ≠ 0 ∨ r.err = 0 ∧ r.text.toList.isEmpty = true) :
    Calls Tryz.prog 14 #[.pointer (some ⟨l, 0, none⟩), .agg r.cells] w (NextP c.p w (Kst m (UcS fd s f))) := by
  obtain ⟨bt, hm, h1⟩ := hs
  obtain ⟨bd, bf, bs, b4, e1, e2, e3⟩ := hm.th
  refine go_next hr hm.over e1 r (fun m' w1 w2 k hh => hh.kr (k.kr 0)) en_slurp2 fun w1 k1 g => ?_
  exact (slurped_end g.mach hm.over (k1.get e2) (e3.kb k1) r he).mono fun e w2 h => h.more g.mach fun m' w' k hh => ⟨hh.1, bt, hh.2, k.get (k1.get h1)⟩
theorem us3_n {c : Cx} {w : World} {l : Nat} {m : Ma} {fd : Int} {s : ByteArray} {f : Value} (hr : Run c l w m) (hW : Pw.HasW c.w0) (hs : UcS fd s f m w) {L : List Pw.UserS} (hz : ¬ 4096 < s.data.toList.length) (hL : Pw.parseL [] 1 s.data.toList = .ok L) {R : Ma → World → Prop} (hR : ∀ m' w1 w2, Kb w1 w2 → R m' w1 → R m' w2) (hf : Ut c L R f w) (r : An) :
    Calls Tryz.prog 14 #[.pointer (some ⟨l, 0, none⟩), .agg r.cells] w (NextP c.p w (Kst m R)) := by
  obtain ⟨bt, hm, h1⟩ := hs
  obtain ⟨bf, bs, b4, e1, e3⟩ := hm.th
  obtain ⟨k, ca, rfl, he1, hk⟩ := hf
  refine go_next hr hm.over e1 r hR en_slurp11 fun w1 k1 g => ?_
  refine closed_any (e3.kb k1) r en_users2 fun w2 hb => ?_
  have k2 := k1.trans (Kb.below hb)
  have g2 := g.below hb
  refine users2_any (hW.below g2.bel) (k2.get h1) s hz hL he1 fun w3 v hb3 hv => ?_
  exact hk w3 _ v hv ((k2.trans (Kb.below hb3)).kr _) (g2.below hb3)
end Go.Proofs.YtlhlehdajkoogaaGreatDoor
/- su. -/
namespace Go.Proofs.YtlhlehdajkoogaaGreatDoor
open Go.RowKit

/-- A machine that asks who it is. -/
def IdsS (name : ByteArray) (m : Ma) (w : World) : Prop := m.over = false ∧ m.c = { op := 22 } ∧ ∃ bn, m.th = .func (.func 87) #[] #[.pointer (some ⟨bn, 0, none⟩)] ∧ w.heap[bn]? = some (.cells #[.string name] 9 (0, 0))
theorem IdsS.kr {q : Nat} {name : ByteArray} {m : Ma} {w w' : World} (h : IdsS name m w) (k : Kr q w w') : IdsS name m w' := by
  obtain ⟨h0, h1, bn, h2, h3⟩ := h
  exact ⟨h0, h1, bn, h2, k.get h3⟩
theorem en_su : Enters 47 := enter_of Tryz.func47 (by kernel_rfl) rfl
theorem en_su1 : Enters 87 := enter_of Tryz.func87 (by kernel_rfl) rfl
theorem en_su2 : Enters 88 := enter_of Tryz.func88 (by kernel_rfl) rfl
theorem en_su3 : Enters 90 := enter_of Tryz.func90 (by kernel_rfl) rfl
set_option maxRecDepth 100000 in
set_option maxHeartbeats 4000000 in
theorem su_any {w : World} {p : Nat} {m : Ma} (h : M w p m) (ho : m.over = false) {v : Value} {name : ByteArray} (hw : Words w v name) :
    Calls Tryz.prog 47 #[.pointer (some ⟨p, 0, none⟩), v] w (ThP p w (Kst m (IdsS name))) := by
  have hmf : ∀ (fn : Fn) (first cap : Array Value) (w : World), (Instr.makeFunc fn first cap).run Tryz.prog w = .ok (.func fn first cap) w := fun _ _ _ _ => rfl
  obtain ⟨b, cap, cur, rfl, hb1, hb2, _⟩ := hw
  obtain ⟨V, hV, hc0, hbb, hsz⟩ := boxes1 w #[.string ⟨#[]⟩] 9
  have v1 : V.cell? ⟨w.heap.size, 0, none⟩ = some (.string ⟨#[]⟩) := cell_of hc0 0
  have u1 := frozen_of hc0 0
  have hbe := lt_of_heap hb1
  obtain ⟨V1, hV1⟩ : ∃ V1, V.setCell ⟨w.heap.size, 0, none⟩ (.string ⟨#[114, 111, 111, 116]⟩) = V1 := ⟨_, rfl⟩
  have hc1 : V1.heap[w.heap.size]? = some (.cells #[.string ⟨#[114, 111, 111, 116]⟩] 9 (0, 0)) := by rw [← hV1]; exact heap_setCell_same hc0 _
  have hbV1 : Below w.heap.size w V1 := by rw [← hV1]; exact hbb.setCell (Nat.le_refl _) _
  have y1 : V1.cell? ⟨w.heap.size, 0, none⟩ = some (.string ⟨#[114, 111, 111, 116]⟩) := cell_of hc1 0
  have z1 := frozen_of hc1 0
  have x0 : V1.cell? ⟨b, 0, none⟩ = some (.string name) := (cell_of ((hbV1.block b hbe).trans hb1) 0).trans hb2
  obtain ⟨W, hW⟩ : ∃ W, V1.setCell ⟨w.heap.size, 0, none⟩ (.string name) = W := ⟨_, rfl⟩
  have hc2 : W.heap[w.heap.size]? = some (.cells #[.string name] 9 (0, 0)) := by rw [← hW]; exact heap_setCell_same hc1 _
  have hbW : Below w.heap.size w W := by rw [← hW]; exact hbV1.setCell (Nat.le_refl _) _
  have HM := Lib.hid (h.below hbW)
  have HO := Lib.hid ho
  have HN := Lib.hid hc2
  have HMO := Lib.hid (Mo.of (b := p) hbW)
  clear h ho hb1 hb2 hc0 hbb hsz hbe hc1 hbV1 hc2 hbW
  go_enter Tryz.func47, Tryz.ntmps47
  go_wp2_with fail
  refine (sys_any HM.out { op := 22 } _ _ _ rfl rfl).mono ?_
  rintro e w4 ⟨rfl, h1, h2⟩
  have hk := Kb.mo HM.out h2
  have H := Lib.hid (ThP.sys h1 HO.out rfl rfl (HMO.out.trans h2) (R := Kst m (IdsS name)) ⟨rfl, HO.out, rfl, _, rfl, hk.get HN.out⟩)
  clear h1 h2 hk
  go_wp2
  exact bodyPost_end (results_none rfl _ _ _) rfl H.out
/-- What su's closure for users holds: a name and an answer. -/
def SuB (q : Nat) (name : ByteArray) (r : An) (f : Value) (w : World) : Prop := ∃ bn br, f = .func (.func 88) #[] #[.pointer (some ⟨bn, 0, none⟩), .pointer (some ⟨br, 0, none⟩)] ∧ w.heap[bn]? = some (.cells #[.string name] 9 (0, 0)) ∧ w.heap[br]? = some (.cells r.cells 35 (0, 0)) ∧ br ≠ q
theorem SuB.kr {q : Nat} {name : ByteArray} {r : An} {f : Value} {w w' : World} (h : SuB q name r f w) (k : Kr q w w') : SuB q name r f w' := by
  obtain ⟨bn, br, h0, h1, h2, h3⟩ := h
  exact ⟨bn, br, h0, k.get h1, k _ _ _ (by decide) (by decide) (fun _ => h3) h2, h3⟩
set_option maxRecDepth 100000 in
set_option maxHeartbeats 4000000 in
theorem su1_any {w : World} {p q bn : Nat} {m : Ma} (h : M w p m) (ho : m.over = false) {name : ByteArray} (h1 : w.heap[bn]? = some (.cells #[.string name] 9 (0, 0))) (hq : q < w.heap.size) (r : An) :
    Calls Tryz.prog 87 #[.pointer (some ⟨p, 0, none⟩), .agg r.cells, .pointer (some ⟨bn, 0, none⟩)] w (ThP p w (Kst m fun m' w' => ∃ f, OpenS f m' w' ∧ SuB q name r f w')) := by
  have hmf : ∀ (fn : Fn) (first cap : Array Value) (w : World), (Instr.makeFunc fn first cap).run Tryz.prog w = .ok (.func fn first cap) w := fun _ _ _ _ => rfl
  obtain ⟨W, hW, ha, hb, _⟩ := boxes1 w r.cells 35
  have HB : Hid (SuB q name r (.func (.func 88) #[] #[.pointer (some ⟨bn, 0, none⟩), .pointer (some ⟨w.heap.size, 0, none⟩)]) W) := Lib.hid ⟨_, _, rfl, (Kb.below hb).get h1, ha, by omega⟩
  have HM := Lib.hid (h.below hb)
  have HO := Lib.hid ho
  have HMO := Lib.hid (Mo.of (b := p) hb)
  obtain ⟨C, hC⟩ : ∃ C, r.cells = C := ⟨_, rfl⟩
  rw [hC] at hW ⊢
  clear h ho h1 hb hC ha hq
  go_enter Tryz.func87, Tryz.ntmps87
  go_wp2_with fail
  refine (users_any HM.out HO.out _ _ _).mono ?_
  intro e w2 h
  obtain rfl := h.end
  have H := Lib.hid ((h.more HM.out (R1 := Kst m fun m' w' => ∃ f, OpenS f m' w' ∧ SuB q name r f w') fun m' w' k hh => ⟨hh.1, _, hh.2, HB.out.kr (k.kr q)⟩).pre HMO.out)
  clear h
  go_wp2
  exact bodyPost_end (results_none rfl _ _ _) rfl H.out
theorem stored_user {w : World} {C : Array Value} (h : C.size = 6) : ∃ W, World.setCells (w.alloc (.cells #[.string ⟨#[]⟩, .string ⟨#[]⟩, .int .i64 0, .int .i64 0, .string ⟨#[]⟩, .string ⟨#[]⟩] 47)) w.heap.size 0 C.toList = W ∧ W.heap[w.heap.size]? = some (.cells C 47 (0, 0)) ∧ Below w.heap.size w W ∧ (w.alloc (.cells #[.string ⟨#[]⟩, .string ⟨#[]⟩, .int .i64 0, .int .i64 0, .string ⟨#[]⟩, .string ⟨#[]⟩] 47)).there w.heap.size 0 C.size := by
  have hA := alloc_heap w (.cells (Pw.userC Pw.zeroU) 47)
  have hwr := heap_setCells C.toList 0 _ _ hA
  rw [putA_whole (show C.size = (Pw.userC Pw.zeroU).size from h)] at hwr
  have hb := belowA (Below.refl w.heap.size w) (.cells (Pw.userC Pw.zeroU) 47)
  refine ⟨_, rfl, hwr, ⟨(setCells_os _ _ _).1.trans hb.os, (setCells_os _ _ _).2.1.trans hb.tape, (setCells_os _ _ _).2.2.trans hb.output, by rw [setCells_size]; exact hb.size, fun k hk => (heap_setCells_other (by omega) _ _ _).trans (hb.block k hk)⟩, ?_⟩
  rw [h]
  exact there_of hA
theorem user_one (u : Pw.UserS) : (Pw.userC u).all (·.oneCell') = true := by simp [Pw.userC, Value.oneCell']
theorem user_info (u : Pw.UserS) : (Tryz.prog.info? 47).map (·.size) = some (Pw.userC u).size := by kernel_rfl
set_option maxRecDepth 100000 in
set_option maxHeartbeats 4000000 in
theorem su3_any {w : World} {p bu : Nat} {m : Ma} (h : M w p m) (ho : m.over = false) {u : Pw.UserS} (h1 : w.heap[bu]? = some (.cells (Pw.userC u) 47 (0, 0))) :
    Calls Tryz.prog 90 #[.pointer (some ⟨p, 0, none⟩), .pointer (some ⟨bu, 0, none⟩)] w (ThP p w (Kst m fun m' w' => ∃ f, BecS u f m' w')) := by
  have hmf : ∀ (fn : Fn) (first cap : Array Value) (w : World), (Instr.makeFunc fn first cap).run Tryz.prog w = .ok (.func fn first cap) w := fun _ _ _ _ => rfl
  have HI := Lib.hid (user_info u)
  have HH := Lib.hid h1
  have HB := Lib.hid (becomes_any h ho u (.func 91) #[] #[.pointer (some ⟨bu, 0, none⟩)])
  obtain ⟨C, hC⟩ : ∃ C, Pw.userC u = C := ⟨_, rfl⟩
  rw [hC] at HI HH HB
  clear h ho h1 hC
  go_enter Tryz.func90, Tryz.ntmps90
  go_wp2_with (refine wpList_load_row rfl 47 _ rfl bu rfl 47 C (0, 0) _ HH.out Tryz.underlying47 rfl HI.out ?_)
  refine HB.out.mono ?_
  intro e w2 h
  obtain rfl := h.end
  have H := Lib.hid (h.mono (R2 := Kst m fun m' w' => ∃ f, BecS u f m' w') fun m' w' hh => ⟨hh.1, _, hh.2⟩)
  clear h
  go_wp2
  exact bodyPost_end (results_none rfl _ _ _) rfl H.out
theorem kt_su3 {c : Cx} {w : World} {bu : Nat} {u : Pw.UserS} (h1 : w.heap[bu]? = some (.cells (Pw.userC u) 47 (0, 0))) : Kt c (fun m' w' => ∃ f, BecS u f m' w') (.func (.func 90) #[] #[.pointer (some ⟨bu, 0, none⟩)]) w :=
  ⟨_, _, rfl, en_su3, fun _ _ k g => su3_any g.mach g.over (k.get h1)⟩
/-- su behind the users. -/
def SuQ (c : Cx) (name : ByteArray) (real : Int) (u : Pw.UserS) (m : Ma) (w : World) : Prop := (real = 0 ∧ ∃ f, BecS u f m w) ∨ (real ≠ 0 ∧ ∃ g f, AskS sPw g m w ∧ PrvB name u true f g w ∧ Kt c (fun m' w' => ∃ f, BecS u f m' w') f w)
theorem SuQ.kr {c : Cx} {name : ByteArray} {real : Int} {u : Pw.UserS} {m : Ma} {w w' : World} (h : SuQ c name real u m w) (k : Kr c.q w w') : SuQ c name real u m w' := by
  rcases h with ⟨h1, f, h2⟩ | ⟨h1, g, f, h2, h3, h4⟩
  · exact .inl ⟨h1, f, h2.kr k⟩
  · exact .inr ⟨h1, g, f, h2.kr k, h3.kr k, h4.kr k⟩
set_option maxRecDepth 100000 in
set_option maxHeartbeats 4000000 in
theorem su2_any {c : Cx} {w : World} {bn br : Nat} {m : Ma} (g : Gx c w m) {name : ByteArray} (h1 : w.heap[bn]? = some (.cells #[.string name] 9 (0, 0))) {r : An} (h2 : w.heap[br]? = some (.cells r.cells 35 (0, 0))) {v : Value} {L : List Pw.UserS} (hv : Pw.InU w v L) (hL : L.length ≤ 8) {u : Pw.UserS} (hu : ∃ k : Nat, ∃ h : k < L.length, Pw.isName name L[k] = true ∧ L[k] = u ∧ ∀ j (hj : j < L.length), Pw.isName name L[j] = true → j = k) (hp : u.pass.toList.isEmpty = false) :
    Calls Tryz.prog 88 #[.pointer (some ⟨c.p, 0, none⟩), v, .pointer (some ⟨bn, 0, none⟩), .pointer (some ⟨br, 0, none⟩)] w (ThP c.p w (Kst m (SuQ c name r.real u))) := by
  have hmf : ∀ (fn : Fn) (first cap : Array Value) (w : World), (Instr.makeFunc fn first cap).run Tryz.prog w = .ok (.func fn first cap) w := fun _ _ _ _ => rfl
  have x0 : w.cell? ⟨bn, 0, none⟩ = some (.string name) := cell_of h1 0
  have HF := Lib.hid (Pw.find_any v L name w hv (by omega))
  have H1 := Lib.hid h1
  have H2 := Lib.hid h2
  have HG := Lib.hid g
  have HU := Lib.hid hu
  have HP := Lib.hid hp
  clear g h1 h2 hv hL hu hp
  go_enter Tryz.func88, Tryz.ntmps88
  go_wp2_with fail
  refine HF.out.mono ?_
  rintro e w1 ⟨hb, hf⟩
  obtain ⟨k, hk, e1, e2, e3⟩ := HU.out
  obtain rfl : e = .returned (.tuple #[.agg (Pw.userC u), .bool true]) := by
    rcases hf with ⟨j, hj, e4, _, e5⟩ | ⟨e4, _⟩
    · obtain rfl := e3 j hj e4
      rw [e5, e2]
    · rw [e4 _ (List.getElem_mem hk)] at e1; cases e1
  obtain ⟨W, hW, hbk, hbW, hT⟩ := stored_user (w := w1) (C := Pw.userC u) rfl
  have HT := Lib.hid hT
  have HI := Lib.hid (user_info u)
  have HO1 := Lib.hid (user_one u)
  have hbb := hb.trans (hbW.mono hb.size)
  have k2 := Kb.below hbb
  have HU2 := Lib.hid hbk
  have HGW := Lib.hid (HG.out.below hbb)
  have H1W := Lib.hid (k2.get H1.out)
  have y0 : W.cell? ⟨bn, 0, none⟩ = some (.string name) := cell_of H1W.out 0
  have y7 : W.cell? ⟨br, 14, none⟩ = some (.int .i64 r.real) := cell_of (k2.get H2.out) 14
  have HMO := Lib.hid (Mo.of (b := c.p) hbb)
  have HKT := Lib.hid (kt_su3 (c := c) hbk)
  clear hb hf e1 e2 e3 hk hbk hbW hT hbb k2 HF HU HG H1 H2 x0
  obtain ⟨C, hC⟩ : ∃ C, Pw.userC u = C := ⟨_, rfl⟩
  rw [hC] at hW HT HI HO1 HU2 ⊢
  have HC := Lib.hid hC
  clear hC
  by_cases hr : r.real = 0
  · rw [hr] at y7
    have HR := Lib.hid hr
    clear hr
    go_wp2_with (refine wpList_store_mid rfl 47 _ _ rfl w1.heap.size 0 C rfl rfl HT.out HI.out HO1.out ?_; rw [hW]; clear hW)
    refine (su3_any HGW.out.mach HGW.out.over (u := u) (by rw [HC.out]; exact HU2.out)).mono ?_
    intro e w2 h
    obtain rfl := h.end
    have H := Lib.hid ((h.mono (R2 := Kst m (SuQ c name r.real u)) fun m' w' hh => ⟨hh.1, .inl ⟨HR.out, hh.2⟩⟩).pre HMO.out)
    clear h
    go_wp2
    exact bodyPost_end (results_none rfl _ _ _) rfl H.out
  · have hrb : (r.real == 0) = false := by simpa using hr
    have HR := Lib.hid hr
    clear hr
    go_wp2_with (first | (refine wpList_store_mid rfl 47 _ _ rfl w1.heap.size 0 C rfl rfl HT.out HI.out HO1.out ?_; rw [hW]; clear hW) | (refine wpList_load_row rfl 47 _ rfl w1.heap.size rfl 47 C (0, 0) _ HU2.out Tryz.underlying47 rfl HI.out ?_))
    rw [← HC.out]
    refine (proves_ask HGW.out.mach HGW.out.over name u true (fun _ => HP.out) _ _ _).mono ?_
    intro e w2 h
    obtain rfl := h.end
    have H := Lib.hid ((h.more HGW.out.mach (R1 := Kst m (SuQ c name r.real u)) fun m' w' k hh => ⟨hh.1, .inr ⟨HR.out, hh.2.elim fun g hg => ⟨g, _, hg.1, hg.2, HKT.out.kr (k.kr _)⟩⟩⟩).pre HMO.out)
    clear h
    go_wp2
    exact bodyPost_end (results_none rfl _ _ _) rfl H.out
end Go.Proofs.YtlhlehdajkoogaaGreatDoor
/- The statements' small case. -/
namespace Go.Proofs.YtlhlehdajkoogaaGreatDoor
open Go.RowKit

theorem Nw.below {w0 w w' : World} {prog s : ByteArray} {d : FuncId} {e : Ending} {l p pd pw : Nat} {v wv : Value} (h : Nw w0 w prog d s e l p pd pw v wv) (hb : Below w.heap.size w w') : Nw w0 w' prog d s e l p pd pw v wv := by
  have k := Kb.below hb
  exact ⟨h.ret, h.l.kb k, h.m.below hb, h.one.kb k, k _ _ _ (by decide) (by decide) h.pd, k _ _ _ (by decide) (by decide) h.pw, h.words.kb k, h.ge, h.bel.trans (hb.mono h.bel.size)⟩
/-- A program under way: it lies, and its call lies in a block of its own. -/
structure GW (w0 w : World) (l p : Nat) (m : Ma) (R : Ma → World → Prop) : Prop where
  lies : L w l p
  mach : M w p m
  st : R m w
  ge : w0.heap.size ≤ p
  bel : Below w0.heap.size w0 w
/-- The block that holds a call. -/
def Cal (w : World) (b : Nat) (C : Array Value) (p : Nat) : Prop := w.heap[b]? = some (.cells C 39 (0, 0)) ∧ p < b
theorem GW.next {w0 w w1 : World} {l p : Nat} {m : Ma} {R R1 : Ma → World → Prop} {e : Ending} (h : GW w0 w l p m R) (hn : NextP p w R1 e w1) : ∃ m1, e = .returned (.agg m1.c.cells) ∧ GW w0 w1 l p m1 R1 ∧ m1.told ∧ (∀ b C, Cal w b C p → Cal w1 b C p) := by
  obtain ⟨m1, he, h1, h2, h3, h4⟩ := hn
  exact ⟨m1, he, ⟨h.lies.kb (Kb.mo h.mach h3), h1, h4, h.ge, Mo.bel h.bel h3 h.ge (Nat.le_refl _)⟩, h2, fun b C hb => ⟨(h3.block b (lt_of_heap hb.1) (by have := hb.2; omega)).trans hb.1, hb.2⟩⟩
theorem GW.below {w0 w w1 : World} {l p : Nat} {m : Ma} {R : Ma → World → Prop} (h : GW w0 w l p m R) (hR : ∀ m' w1 w2, Kb w1 w2 → R m' w1 → R m' w2) (hb : Below w.heap.size w w1) : GW w0 w1 l p m R :=
  ⟨h.lies.kb (Kb.below hb), h.mach.below hb, hR _ _ _ (Kb.below hb) h.st, h.ge, h.bel.trans (hb.mono h.bel.size)⟩
theorem Cal.below {w w1 : World} {b p : Nat} {C : Array Value} (h : Cal w b C p) (hb : Below w.heap.size w w1) : Cal w1 b C p := ⟨(hb.block b (lt_of_heap h.1)).trans h.1, h.2⟩
theorem Nw.gw {w0 w : World} {prog s : ByteArray} {d : FuncId} {e : Ending} {l p pd pw : Nat} {v wv : Value} (h : Nw w0 w prog d s e l p pd pw v wv) : GW w0 w l p { prog := prog, todo := v, th := .nilFunc, c := { op := 0 } } (fun _ _ => True) := ⟨h.l, h.m, trivial, h.ge, h.bel⟩
def sGetty : ByteArray := ⟨#[103, 101, 116, 116, 121]⟩
def sTwo : ByteArray := ⟨#[50]⟩
def sAnn : ByteArray := ⟨#[97, 110, 110]⟩
def sAnnL : ByteArray := ⟨#[97, 110, 110, 10]⟩
set_option maxRecDepth 100000 in
set_option maxHeartbeats 8000000 in
theorem shown_any {w : World} : Calls Tryz.prog 10 #[] w fun e w' => e = .returned (.bool true) ∧ Below w.heap.size w w' := by
  have ha := alloc_heap w (.cells #[.string ⟨#[103, 101, 116, 116, 121]⟩, .string ⟨#[50]⟩] 9)
  have HB0 := Lib.hid (belowA (Below.refl w.heap.size w) (.cells #[.string ⟨#[103, 101, 116, 116, 121]⟩, .string ⟨#[50]⟩] 9))
  have HA := Lib.hid (lnew_any ⟨#[103, 101, 116, 116, 121]⟩ 45 (fun W => prog_getty W) ha)
  clear ha
  go_enter Tryz.func10, Tryz.ntmps10
  go_wp2_with fail
  refine HA.out.mono ?_
  rintro e w2 ⟨l, p, pd, pw, v, wv, hN⟩
  obtain rfl := hN.ret
  have HN := Lib.hid hN
  clear hN HA
  go_wp2_with fail
  refine ldog_any.mono ?_
  rintro e w3 ⟨rfl, hb⟩
  have HN3 := Lib.hid (HN.out.below hb)
  clear HN hb
  go_wp2_with fail
  have HG := Lib.hid HN3.out.gw
  refine (g1_any HN3.out rfl 2 (by omega) rfl {}).mono ?_
  intro e v4 h
  obtain ⟨m4, rfl, hg, htd, hcal⟩ := HG.out.next h
  obtain ⟨C4, hC⟩ : ∃ C, m4.c.cells = C := ⟨_, rfl⟩
  have hsz : C4.size = 20 := by rw [← hC]; rfl
  have hone : C4.all (·.oneCell') = true := by rw [← hC]; exact Ca.one _ htd.1.1 htd.1.2
  have F40 : Hid (C4[0]? = some (.int .i64 25)) := Lib.hid (by rw [← hC, hg.st.c]; rfl)
  have F46 : Hid (C4[6]? = some (.int .i64 2)) := Lib.hid (by rw [← hC, hg.st.c]; rfl)
  rw [hC]
  obtain ⟨W4, hW, hbk, hbel, hs, hT⟩ := stored_call (w := v4) (C := C4) hsz
  have K4 : Hid (Cal W4 v4.heap.size C4 p) := Lib.hid ⟨hbk, hg.mach.lt⟩
  have HG := Lib.hid (hg.below (fun m' w1 w2 k hh => hh.kb) hbel)
  have HI : Hid ((Tryz.prog.info? 39).map (·.size) = some C4.size) := Lib.hid (by rw [hsz]; rfl)
  have HO := Lib.hid hone
  have HT := Lib.hid hT
  clear h hg htd hcal hC hsz hone hbk hbel hs hT
  go_wp2_with (refine wpList_store_mid rfl 39 _ _ rfl v4.heap.size 0 C4 rfl rfl HT.out HI.out HO.out ?_; rw [hW]; clear hW)
  refine (g2_any HG.out.lies HG.out.mach HG.out.st {} rfl).mono ?_
  intro e v5 h
  obtain ⟨m5, rfl, hg, htd, hcal⟩ := HG.out.next h
  obtain ⟨C5, hC⟩ : ∃ C, m5.c.cells = C := ⟨_, rfl⟩
  have hsz : C5.size = 20 := by rw [← hC]; rfl
  have hone : C5.all (·.oneCell') = true := by rw [← hC]; exact Ca.one _ htd.1.1 htd.1.2
  have F50 : Hid (C5[0]? = some (.int .i64 5)) := Lib.hid (by rw [← hC, hg.st.c]; rfl)
  have F53 : Hid (C5[3]? = some (.string hello)) := Lib.hid (by rw [← hC, hg.st.c]; rfl)
  rw [hC]
  obtain ⟨W5, hW, hbk, hbel, hs, hT⟩ := stored_call (w := v5) (C := C5) hsz
  have K4 := Lib.hid ((hcal _ _ K4.out).below hbel)
  have K5 : Hid (Cal W5 v5.heap.size C5 p) := Lib.hid ⟨hbk, hg.mach.lt⟩
  have HG := Lib.hid (hg.below (fun m' w1 w2 k hh => hh.kb k) hbel)
  have HI : Hid ((Tryz.prog.info? 39).map (·.size) = some C5.size) := Lib.hid (by rw [hsz]; rfl)
  have HO := Lib.hid hone
  have HT := Lib.hid hT
  clear h hg htd hcal hC hsz hone hbk hbel hs hT
  go_wp2_with (refine wpList_store_mid rfl 39 _ _ rfl v5.heap.size 0 C5 rfl rfl HT.out HI.out HO.out ?_; rw [hW]; clear hW)
  refine (g3_any HG.out.lies HG.out.mach HG.out.st { n := 7 } rfl (show (1 : Int) ≤ 7 by omega) (show ((7 : Nat) : Int) ≤ 7 by omega)).mono ?_
  intro e v6 h
  obtain ⟨m6, rfl, hg, htd, hcal⟩ := HG.out.next h
  obtain ⟨C6, hC⟩ : ∃ C, m6.c.cells = C := ⟨_, rfl⟩
  have hsz : C6.size = 20 := by rw [← hC]; rfl
  have hone : C6.all (·.oneCell') = true := by rw [← hC]; exact Ca.one _ htd.1.1 htd.1.2
  have F60 : Hid (C6[0]? = some (.int .i64 4)) := Lib.hid (by rw [← hC, hg.st.c]; rfl)
  rw [hC]
  obtain ⟨W6, hW, hbk, hbel, hs, hT⟩ := stored_call (w := v6) (C := C6) hsz
  have K4 := Lib.hid ((hcal _ _ K4.out).below hbel)
  have K5 := Lib.hid ((hcal _ _ K5.out).below hbel)
  have K6 : Hid (Cal W6 v6.heap.size C6 p) := Lib.hid ⟨hbk, hg.mach.lt⟩
  have HG := Lib.hid (hg.below (fun m' w1 w2 k hh => hh.kb) hbel)
  have HI : Hid ((Tryz.prog.info? 39).map (·.size) = some C6.size) := Lib.hid (by rw [hsz]; rfl)
  have HO := Lib.hid hone
  have HT := Lib.hid hT
  clear h hg htd hcal hC hsz hone hbk hbel hs hT
  go_wp2_with (refine wpList_store_mid rfl 39 _ _ rfl v6.heap.size 0 C6 rfl rfl HT.out HI.out HO.out ?_; rw [hW]; clear hW)
  refine (g4_any HG.out.lies HG.out.mach HG.out.st { text := sAnnL } rfl (show 4 ≤ 9223372036854775807 by omega) (by rw [ByteArray.toList_eq]; rfl) sAnn rfl (by rw [ByteArray.toList_eq]; rfl)).mono ?_
  intro e v7 h
  obtain ⟨m7, rfl, hg, htd, hcal⟩ := HG.out.next h
  obtain ⟨C7, hC⟩ : ∃ C, m7.c.cells = C := ⟨_, rfl⟩
  have hsz : C7.size = 20 := by rw [← hC]; rfl
  have hone : C7.all (·.oneCell') = true := by rw [← hC]; exact Ca.one _ htd.1.1 htd.1.2
  obtain ⟨bx, hx1, hx2⟩ := hg.st
  have F70 : Hid (C7[0]? = some (.int .i64 19)) := Lib.hid (by rw [← hC, hx1]; rfl)
  have F7a : Hid (C7[18]? = some (.slice (some ⟨bx, 0, none⟩) 2 2)) := Lib.hid (by rw [← hC, hx1]; rfl)
  rw [hC]
  obtain ⟨W7, hW, hbk, hbel, hs, hT⟩ := stored_call (w := v7) (C := C7) hsz
  have K4 := Lib.hid ((hcal _ _ K4.out).below hbel)
  have K5 := Lib.hid ((hcal _ _ K5.out).below hbel)
  have K6 := Lib.hid ((hcal _ _ K6.out).below hbel)
  have K7 : Hid (Cal W7 v7.heap.size C7 p) := Lib.hid ⟨hbk, hg.mach.lt⟩
  have HG := Lib.hid (hg.below (fun m' w1 w2 k hh => hh.kb k) hbel)
  have HI : Hid ((Tryz.prog.info? 39).map (·.size) = some C7.size) := Lib.hid (by rw [hsz]; rfl)
  have HO := Lib.hid hone
  have HT := Lib.hid hT
  have HX := Lib.hid ((hbel.block bx (lt_of_heap hx2)).trans hx2)
  clear h hg htd hcal hC hsz hone hbk hbel hs hT hx1 hx2
  have y40 : W7.cell? ⟨v4.heap.size, 0, none⟩ = some (.int .i64 25) := (cell_of K4.out.1 0).trans F40.out
  have y46 : W7.cell? ⟨v4.heap.size, 6, none⟩ = some (.int .i64 2) := (cell_of K4.out.1 6).trans F46.out
  have y50 : W7.cell? ⟨v5.heap.size, 0, none⟩ = some (.int .i64 5) := (cell_of K5.out.1 0).trans F50.out
  have y53 : W7.cell? ⟨v5.heap.size, 3, none⟩ = some (.string hello) := (cell_of K5.out.1 3).trans F53.out
  have y60 : W7.cell? ⟨v6.heap.size, 0, none⟩ = some (.int .i64 4) := (cell_of K6.out.1 0).trans F60.out
  have y70 : W7.cell? ⟨v7.heap.size, 0, none⟩ = some (.int .i64 19) := (cell_of K7.out.1 0).trans F70.out
  have y7a : W7.cell? ⟨v7.heap.size, 18, none⟩ = some (.slice (some ⟨bx, 0, none⟩) 2 2) := (cell_of K7.out.1 18).trans F7a.out
  have yx : W7.cell? ⟨bx, 1, none⟩ = some (.string sAnn) := cell_of HX.out 1
  have HB := Lib.hid (HB0.out.trans (HG.out.bel.mono HB0.out.size))
  unfold hello at y53
  unfold sAnn at yx
  go_wp2_with (refine wpList_store_mid rfl 39 _ _ rfl v7.heap.size 0 C7 rfl rfl HT.out HI.out HO.out ?_; rw [hW]; clear hW)
  go_ret
  exact ⟨rfl, HB.out⟩
end Go.Proofs.YtlhlehdajkoogaaGreatDoor
/- LoginInit: what its loop keeps. -/
namespace Go.Proofs.YtlhlehdajkoogaaGreatDoor
open Go.RowKit

theorem i64_and7 (n : Int) : bits .and .i64 n 7 = n % 8 := by
  have h7 : (BitVec.ofInt 64 7).toNat = 2 ^ 3 - 1 := by decide
  have key : (BitVec.ofInt 64 n &&& BitVec.ofInt 64 7).toNat = (n % ((2 ^ 64 : Nat) : Int)).toNat % 2 ^ 3 := by
    rw [BitVec.toNat_and, BitVec.toNat_ofInt, h7, Nat.and_two_pow_sub_one_eq_mod]
  show IntKind.i64.wrap ((BitVec.ofInt 64 n &&& BitVec.ofInt 64 7).toNat : Nat) = n % 8
  rw [key, IntKind.wrap_i64]
  omega
theorem conv_one (W : World) (c : UInt8) : (convert 59 9 (.slice (some ⟨W.heap.size, 0, none⟩) 1 1)).run Tryz.prog (W.alloc (Obj.cells #[.int .u8 (c.toNat : Int)] 5)) = .ok (.string ⟨#[c]⟩) (W.alloc (Obj.cells #[.int .u8 (c.toNat : Int)] 5)) :=
  run_convert_bytes_back (P := Tryz.prog) (W.alloc (Obj.cells #[.int .u8 (c.toNat : Int)] 5)) 59 9 5 ⟨W.heap.size, 0, none⟩ 1 [c] Tryz.underlying59 Tryz.underlying5 Tryz.underlying9 (fun j hj => by
    obtain rfl : j = 0 := by simp at hj; exact hj
    exact cell_one_new W (.int .u8 (c.toNat : Int)) 5 0 _ rfl)
theorem stored_ans {w : World} {C : Array Value} (h : C.size = 19) : ∃ W, World.setCells (w.alloc (.cells #[.int .i64 0, .int .i64 0, .int .i64 0, .string ⟨#[]⟩, .slice none 0 0, .int .i64 0, .int .i64 0, .int .i64 0, .int .i64 0, .int .i64 0, .int .i64 0, .int .i64 0, .int .i64 0, .int .i64 0, .int .i64 0, .int .i64 0, .int .i64 0, .int .i64 0, .int .i64 0] 35)) w.heap.size 0 C.toList = W ∧ W.heap[w.heap.size]? = some (.cells C 35 (0, 0)) ∧ Below w.heap.size w W ∧ W.heap.size = w.heap.size + 1 ∧ (w.alloc (.cells #[.int .i64 0, .int .i64 0, .int .i64 0, .string ⟨#[]⟩, .slice none 0 0, .int .i64 0, .int .i64 0, .int .i64 0, .int .i64 0, .int .i64 0, .int .i64 0, .int .i64 0, .int .i64 0, .int .i64 0, .int .i64 0, .int .i64 0, .int .i64 0, .int .i64 0, .int .i64 0] 35)).there w.heap.size 0 C.size := by
  have hA := alloc_heap w (.cells ({} : An).cells 35)
  have hwr := heap_setCells C.toList 0 _ _ hA
  rw [putA_whole (show C.size = ({} : An).cells.size from h)] at hwr
  have hb := belowA (Below.refl w.heap.size w) (.cells ({} : An).cells 35)
  refine ⟨_, rfl, hwr, ⟨(setCells_os _ _ _).1.trans hb.os, (setCells_os _ _ _).2.1.trans hb.tape, (setCells_os _ _ _).2.2.trans hb.output, by rw [setCells_size]; exact hb.size, fun k hk => (heap_setCells_other (by omega) _ _ _).trans (hb.block k hk)⟩, by rw [setCells_size]; exact alloc_size _ _, ?_⟩
  rw [h]
  exact there_of hA
theorem an_zero : Value.agg ({} : An).cells = .agg #[.int .i64 0, .int .i64 0, .int .i64 0, .string ⟨#[]⟩, .slice none 0 0, .int .i64 0, .int .i64 0, .int .i64 0, .int .i64 0, .int .i64 0, .int .i64 0, .int .i64 0, .int .i64 0, .int .i64 0, .int .i64 0, .int .i64 0, .int .i64 0, .int .i64 0, .int .i64 0] := rfl
theorem an_one : ({} : An).cells.all (·.oneCell') = true := by
  simp [An.cells, Value.oneCell']
theorem an_size : ({} : An).cells.size = 19 := rfl
theorem an_n (n : Int) : ({} : An).cells.setIfInBounds 1 (.int .i64 n) = ({ n := n } : An).cells := rfl
/-! ### what the loop keeps -/
theorem ne_of_type {w : World} {a b : Nat} {C D : Array Value} {T U : TypeId} {f g : Nat × Nat} (h : w.heap[a]? = some (.cells C T f)) (k : w.heap[b]? = some (.cells D U g)) (hTU : T ≠ U) : a ≠ b := fun e => by
  subst e; rw [h] at k; injection k with k; injection k with _ k _; exact hTU k
/-- Blocks that are not x. -/
def Fx (x : Option Nat) (k : Nat) : Prop := some k ≠ x
/-- x is a row of numbers. -/
def Tx (w : World) (x : Option Nat) : Prop := ∀ k, x = some k → ∃ cur, w.heap[k]? = some (.cells cur 3 (0, 0))
theorem Tx.fx {w : World} {x : Option Nat} (h : Tx w x) : ∀ k, w.heap.size ≤ k → Fx x k := fun k hk e => by
  obtain ⟨cur, hc⟩ := h k e.symm
  have := lt_of_heap hc
  omega
theorem row_tx {w : World} {B n : Nat} {v : Value} {xs : List Value} (h : w.ownsRow B 3 1 v n xs) : Tx w v.ownBlock := fun k hk => by
  rcases h.2 with ⟨rfl, _⟩ | ⟨g, cap, cur, rfl, hb, hg, _⟩
  · cases hk
  · simp [Value.ownBlock] at hk; subst hk; exact ⟨cur, hg⟩
theorem row_keep {w w' : World} {B n : Nat} {v : Value} {xs : List Value} (h : w.ownsRow B 3 1 v n xs) (k : ∀ (b : Nat) (C : Array Value), w.heap[b]? = some (.cells C 3 (0, 0)) → w'.heap[b]? = some (.cells C 3 (0, 0))) : w'.ownsRow B 3 1 v n xs := by
  refine ⟨h.1, ?_⟩
  rcases h.2 with hn | ⟨g, cap, cur, rfl, hb, hg, rest⟩
  · exact .inl hn
  · exact .inr ⟨g, cap, cur, rfl, hb, k _ _ hg, rest⟩
/-- A program before its first call. -/
structure N0 (w : World) (d : FuncId) (s : ByteArray) (l p : Nat) : Prop where
  lies : L w l p
  st : ∃ prog v pd pw wv, M w p { prog := prog, todo := v, th := .nilFunc, c := { op := 0 } } ∧ One w { prog := prog, todo := v, th := .nilFunc, c := { op := 0 } } (.func (.func 27) #[] #[.pointer (some ⟨pd, 0, none⟩), .pointer (some ⟨pw, 0, none⟩)]) ∧ w.heap[pd]? = some (.cells #[.func (.func d) #[] #[]] FT (0, 0)) ∧ w.heap[pw]? = some (.cells #[wv] 22 (0, 0)) ∧ Words w wv s
theorem N0.of {w0 w : World} {prog s : ByteArray} {d : FuncId} {e : Ending} {l p pd pw : Nat} {v wv : Value} (h : Nw w0 w prog d s e l p pd pw v wv) : N0 w d s l p := ⟨h.l, prog, v, pd, pw, wv, h.m, h.one, h.pd, h.pw, h.words⟩
theorem N0.keep {w w' : World} {d : FuncId} {s : ByteArray} {l p : Nat} (h : N0 w d s l p) (k : ∀ (b : Nat) (C : Array Value) (U : TypeId), U ≠ 3 → w.heap[b]? = some (.cells C U (0, 0)) → w'.heap[b]? = some (.cells C U (0, 0))) : N0 w' d s l p := by
  obtain ⟨hl, prog, v, pd, pw, wv, h1, ⟨td, cap, cur, e1, e2, e3⟩, h3, h4, b, cap2, cur2, rfl, e5, e6⟩ := h
  exact ⟨k _ _ _ (by decide) hl, prog, v, pd, pw, _, k _ _ _ (by decide) h1, ⟨td, cap, cur, e1, k _ _ _ (by decide) e2, e3⟩, k _ _ _ (by decide) h3, k _ _ _ (by decide) h4, b, cap2, cur2, rfl, k _ _ _ (by decide) e5, e6⟩
theorem N0.first {F : Nat → Prop} {w : World} (hF : ∀ k, w.heap.size ≤ k → F k) {s : ByteArray} {l p : Nat} (h : N0 w 44 s l p) (hs : s.size = 1) (u : Nat) (hu : u < 100) (hp : Lib.parseUintB 8 s.data.toList = .ok u) (r : An) :
    Calls Tryz.prog 14 #[.pointer (some ⟨l, 0, none⟩), .agg r.cells] w (NextP p w (IS F (LGI.keepsM (List.replicate u 0) 0))) := by
  obtain ⟨hl, prog, v, pd, pw, wv, hm, ho, h3, h4, h5⟩ := h
  refine lnext_any hl hm r (fun m' w1 w2 k hh => hh.kb k) fun w1 h1 k1 s1 => ?_
  obtain ⟨td, cap, cur, g1, g2, g3, g4⟩ := ho
  refine start_any h1 rfl rfl g1 (k1 _ _ _ (by decide) (by decide) g2) g3 g4 r (fun m' w1 w2 k hh => hh.kb k) en_new fun w2 h2 k2 s2 => ?_
  have k3 := k1.trans k2
  refine newd_any (k3 _ _ _ (by decide) (by decide) h3) (k3 _ _ _ (by decide) (by decide) h4) en_initial ?_
  exact (initial_any (fun k hk => hF k (Nat.le_trans (Nat.le_trans s1.size s2.size) hk)) h2 (h5.kb k3) hs u hu hp).mono fun e w' hh => kq_told hh rfl
/-- A program, ready for an answer that lies in a block of its own. -/
structure LI (w0 w : World) (l p rb : Nat) (x : Option Nat) (md : LGI.Md) (r : An) : Prop where
  lies : L w l p
  ge : w0.heap.size ≤ p
  bel : Below w0.heap.size w0 w
  ans : w.heap[rb]? = some (.cells r.cells 35 (0, 0))
  rge : w0.heap.size ≤ rb
  st : (∃ s u, N0 w 44 s l p ∧ s.size = 1 ∧ u < 100 ∧ Lib.parseUintB 8 s.data.toList = .ok u ∧ md = LGI.keepsM (List.replicate u 0) 0) ∨ (∃ m md0, M w p m ∧ IS (Fx x) md0 m w ∧ md0.row.length < 100 ∧ md = stepM md0 r.n ∧ r.err = 0 ∧ 0 < r.n)
theorem LI.mach {w0 w : World} {l p rb : Nat} {x : Option Nat} {md : LGI.Md} {r : An} (h : LI w0 w l p rb x md r) : ∃ m, M w p m := by
  rcases h.st with ⟨s, u, ⟨_, prog, v, pd, pw, wv, hm, _⟩, _⟩ | ⟨m, md0, hm, _⟩
  · exact ⟨_, hm⟩
  · exact ⟨_, hm⟩
theorem LI.call {w0 w : World} {l p rb : Nat} {x : Option Nat} {md : LGI.Md} {r : An} (h : LI w0 w l p rb x md r) (hx : Tx w x) :
    Calls Tryz.prog 14 #[.pointer (some ⟨l, 0, none⟩), .agg r.cells] w (NextP p w (IS (Fx x) md)) := by
  rcases h.st with ⟨s, u, hn, h1, h2, h3, rfl⟩ | ⟨m, md0, hm, hi, h1, rfl, h2, h3⟩
  · exact hn.first hx.fx h1 u h2 h3 r
  · exact inext_any hx.fx h.lies hm hi h1 r h2 h3
theorem IS.keep {x x' : Option Nat} {md : LGI.Md} {m : Ma} {w w' : World} (h : IS (Fx x) md m w) (k : ∀ (b : Nat) (C : Array Value) (U : TypeId), some b ≠ x → w.heap[b]? = some (.cells C U (0, 0)) → w'.heap[b]? = some (.cells C U (0, 0)) ∧ some b ≠ x') : IS (Fx x') md m w' := by
  obtain ⟨⟨b, cap, cur, hF, e, h1, h2⟩, h3, h4⟩ := h
  obtain ⟨k1, k2⟩ := k _ _ _ hF h1
  refine ⟨⟨b, cap, cur, k2, e, k1, h2⟩, h3, ?_⟩
  cases md with
  | wait g => exact h4
  | fork g t =>
    obtain ⟨g1, g2, b', g0, g3, g4⟩ := h4
    obtain ⟨k3, k4⟩ := k _ _ _ g0 g4
    exact ⟨g1, g2, b', k4, g3, k3⟩
/-- The row x grows, or moves into a new block. -/
theorem LI.grow {w0 w w' : World} {l p rb : Nat} {x x' : Option Nat} {md : LGI.Md} {r : An} (h : LI w0 w l p rb x md r) (hx : Tx w x) (hg : w.grownBy w' x) (hge : ∀ k, x = some k → w0.heap.size ≤ k) (hx' : ∀ k, x' = some k → x = some k ∨ w.heap.size ≤ k) : LI w0 w' l p rb x' md r := by
  have k1 : ∀ (b : Nat) (C : Array Value) (U : TypeId), some b ≠ x → w.heap[b]? = some (.cells C U (0, 0)) → w'.heap[b]? = some (.cells C U (0, 0)) ∧ some b ≠ x' := fun b C U hb hc => by
    have hlt := lt_of_heap hc
    refine ⟨(hg.block b hlt hb).trans hc, fun e => ?_⟩
    rcases hx' b e.symm with h | h
    · exact hb h.symm
    · omega
  have k2 : ∀ (b : Nat) (C : Array Value) (U : TypeId), U ≠ 3 → w.heap[b]? = some (.cells C U (0, 0)) → w'.heap[b]? = some (.cells C U (0, 0)) := fun b C U hU hc => (k1 b C U (fun e => by
    obtain ⟨cur, hcur⟩ := hx b e.symm
    exact ne_of_type hc hcur hU rfl) hc).1
  refine ⟨k2 _ _ _ (by decide) h.lies, h.ge, ?_, k2 _ _ _ (by decide) h.ans, h.rge, ?_⟩
  · exact ⟨hg.os.trans h.bel.os, hg.tape.trans h.bel.tape, hg.output.trans h.bel.output, Nat.le_trans h.bel.size hg.size, fun j hj => (hg.block j (Nat.lt_of_lt_of_le hj h.bel.size) (fun e => by have := hge j e.symm; omega)).trans (h.bel.block j hj)⟩
  · rcases h.st with ⟨s, u, hn, h1⟩ | ⟨m, md0, hm, hi, h1⟩
    · exact .inl ⟨s, u, hn.keep k2, h1⟩
    · exact .inr ⟨m, md0, k2 _ _ _ (by decide) hm, hi.keep k1, h1⟩
/-- A program that told its call, which lies in a block of its own; and an empty answer. -/
structure TD (w0 w : World) (l p rb cb : Nat) (x : Option Nat) (md : LGI.Md) (m : Ma) : Prop where
  lies : L w l p
  mach : M w p m
  is : IS (Fx x) md m w
  ge : w0.heap.size ≤ p
  bel : Below w0.heap.size w0 w
  ans : w.heap[rb]? = some (.cells ({} : An).cells 35 (0, 0))
  rge : w0.heap.size ≤ rb
  told : w.heap[cb]? = some (.cells m.c.cells 39 (0, 0))
theorem IS.at {x : Option Nat} {md : LGI.Md} {m : Ma} {w w' : World} {rb : Nat} {Z : Array Value} (h : IS (Fx x) md m w) (hr : w.heap[rb]? = some (.cells Z 35 (0, 0))) (k : ∀ b, b ≠ rb → w'.heap[b]? = w.heap[b]?) : IS (Fx x) md m w' := by
  obtain ⟨⟨b, cap, cur, hF, e, h1, h2⟩, h3, h4⟩ := h
  refine ⟨⟨b, cap, cur, hF, e, (k b (ne_of_type h1 hr (by decide))).trans h1, h2⟩, h3, ?_⟩
  cases md with
  | wait g => exact h4
  | fork g t =>
    obtain ⟨g1, g2, b', g0, g3, g4⟩ := h4
    exact ⟨g1, g2, b', g0, g3, (k b' (ne_of_type g4 hr (by decide))).trans g4⟩
theorem TD.answer {w0 w : World} {l p rb cb : Nat} {x : Option Nat} {md : LGI.Md} {m : Ma} (h : TD w0 w l p rb cb x md m) (hlen : md.row.length < 100) (n : Int) (hn : 0 < n) : LI w0 (w.setCell ⟨rb, 1, none⟩ (.int .i64 n)) l p rb x (stepM md n) { n := n } := by
  have k : ∀ b, b ≠ rb → (w.setCell ⟨rb, 1, none⟩ (.int .i64 n)).heap[b]? = w.heap[b]? := fun b hb => Below.heap_setCell _ _ _ _ hb
  exact ⟨(k l (ne_of_type h.lies h.ans (by decide))).trans h.lies, h.ge, h.bel.setCell (p := ⟨rb, 1, none⟩) h.rge _, heap_setCell_same h.ans _, h.rge, .inr ⟨m, md, (k p (ne_of_type h.mach h.ans (by decide))).trans h.mach, h.is.at h.ans k, hlen, rfl, rfl, hn⟩⟩
theorem TD.row {w0 w : World} {l p rb cb : Nat} {x : Option Nat} {md : LGI.Md} {m : Ma} (h : TD w0 w l p rb cb x md m) {B n : Nat} {v : Value} {xs : List Value} (ho : w.ownsRow B 3 1 v n xs) (z : Value) : (w.setCell ⟨rb, 1, none⟩ z).ownsRow B 3 1 v n xs :=
  row_keep ho fun b C hc => (Below.heap_setCell _ _ _ _ (ne_of_type hc h.ans (by decide))).trans hc
theorem LI.step {w0 w w1 : World} {l p rb : Nat} {x : Option Nat} {md : LGI.Md} {r : An} (h : LI w0 w l p rb x md r) {m1 : Ma} (h1 : M w1 p m1) (h3 : Mo p w w1) (h4 : IS (Fx x) md m1 w1) {W1 W2 : World} (hW1 : W1.heap[w1.heap.size]? = some (.cells m1.c.cells 39 (0, 0))) (hb : Below w1.heap.size w1 W1) (hW2 : W1.setCells rb 0 ({} : An).cells.toList = W2) :
    TD w0 W2 l p rb w1.heap.size x md m1 ∧ (∀ B n v xs, w.ownsRow B 3 1 v n xs → W2.ownsRow B 3 1 v n xs) ∧ W1.there rb 0 19 := by
  obtain ⟨m, hm⟩ := h.mach
  have k1 := Kb.mo hm h3
  have k2 := k1.trans (Kb.below hb)
  have hans := k2 _ _ _ (by decide) (by decide) h.ans
  have k : ∀ b, b ≠ rb → W2.heap[b]? = W1.heap[b]? := fun b hne => by rw [← hW2]; exact heap_setCells_other hne _ _ _
  have hp : p ≠ rb := ne_of_type hm h.ans (by decide)
  refine ⟨⟨?_, ?_, ?_, h.ge, ?_, ?_, h.rge, ?_⟩, fun B n v xs ho => ?_, there_of hans⟩
  · exact (k l (ne_of_type (h.lies.kb k2) hans (by decide))).trans (h.lies.kb k2)
  · exact (k p hp).trans (h1.below hb)
  · exact (h4.kb (Kb.below hb)).at hans k
  · have hb1 := Mo.bel h.bel h3 h.ge (Nat.le_refl _)
    have hb2 := hb1.trans (hb.mono hb1.size)
    rw [← hW2]
    exact ⟨(setCells_os _ _ _).1.trans hb2.os, (setCells_os _ _ _).2.1.trans hb2.tape, (setCells_os _ _ _).2.2.trans hb2.output, by rw [setCells_size]; exact hb2.size, fun j hj => (heap_setCells_other (by have := h.rge; omega) _ _ _).trans (hb2.block j hj)⟩
  · rw [← hW2, heap_setCells _ _ _ _ hans, putA_whole (show ({} : An).cells.size = r.cells.size from rfl)]
  · exact (k _ (ne_of_type hW1 hans (by decide))).trans hW1
  · exact row_keep ho fun b C hc => (k b (ne_of_type (k2 _ _ _ (by decide) (by decide) hc) hans (by decide))).trans (k2 _ _ _ (by decide) (by decide) hc)
theorem LI.start {w0 w1 w : World} {prog s : ByteArray} {e0 : Ending} {l p pd pw rb T : Nat} {v wv : Value} (h : Nw w1 w prog 44 s e0 l p pd pw v wv) (hs : s.size = 1) (hT : T < 100) (hp : Lib.parseUintB 8 s.data.toList = .ok T) (hb : Below w0.heap.size w0 w1) (hr : w.heap[rb]? = some (.cells ({} : An).cells 35 (0, 0))) (hg : w0.heap.size ≤ rb) :
    LI w0 w l p rb none (LGI.keepsM (List.replicate T 0) 0) {} :=
  ⟨h.l, Nat.le_trans hb.size h.ge, hb.trans (h.bel.mono hb.size), hr, hg, .inl ⟨s, T, N0.of h, hs, hT, hp, rfl⟩⟩
end Go.Proofs.YtlhlehdajkoogaaGreatDoor
/- A law's rounds: a program told its call, an answer lies in a block of its own. -/
namespace Go.Proofs.YtlhlehdajkoogaaGreatDoor
open Go.RowKit

/-- A program before its first call. -/
def NewS (d : FuncId) (s : ByteArray) (m : Ma) (w : World) : Prop := ∃ prog v pd pw wv, m = { prog := prog, todo := v, th := .nilFunc, c := { op := 0 } } ∧ One w m (.func (.func 27) #[] #[.pointer (some ⟨pd, 0, none⟩), .pointer (some ⟨pw, 0, none⟩)]) ∧ w.heap[pd]? = some (.cells #[.func (.func d) #[] #[]] FT (0, 0)) ∧ w.heap[pw]? = some (.cells #[wv] 22 (0, 0)) ∧ Words w wv s
theorem NewS.kr {q : Nat} {d : FuncId} {s : ByteArray} {m : Ma} {w w' : World} (h : NewS d s m w) (k : Kr q w w') : NewS d s m w' := by
  obtain ⟨prog, v, pd, pw, wv, h1, ⟨td, cap, cur, e1, e2, e3⟩, h3, h4, b, cap2, cur2, rfl, e5, e6⟩ := h
  exact ⟨prog, v, pd, pw, _, h1, ⟨td, cap, cur, e1, k.get e2, e3⟩, k.get h3, k.get h4, b, cap2, cur2, rfl, k.get e5, e6⟩
theorem start_n {c : Cx} {w : World} {l : Nat} {m : Ma} {d : FuncId} {s : ByteArray} (hr : Run c l w m) (hs : NewS d s m w) (hen : Enters d) (r : An) {R : Ma → World → Prop} (hR : ∀ m' w1 w2, Kb w1 w2 → R m' w1 → R m' w2)
    (hk : ∀ w1 m1 v, Kb w w1 → Gx c w1 m1 → Words w1 v s → Calls Tryz.prog d #[.pointer (some ⟨c.p, 0, none⟩), v] w1 (ThP c.p w1 (Kst m1 R))) :
    Calls Tryz.prog 14 #[.pointer (some ⟨l, 0, none⟩), .agg r.cells] w (NextP c.p w (Kst m R)) := by
  obtain ⟨prog, v, pd, pw, wv, rfl, ho, h3, h4, h5⟩ := hs
  refine lnext_any hr.lies hr.mach r (fun m' w1 w2 k hh => ⟨hh.1, hR _ _ _ k hh.2⟩) fun w1 h1 k1 s1 => ?_
  obtain ⟨td, cap, cur, g1, g2, g3, g4⟩ := ho
  refine start_any h1 rfl rfl g1 (k1.get g2) g3 g4 r (fun m' w1 w2 k hh => ⟨hh.1, hR _ _ _ k hh.2⟩) en_new fun w2 h2 k2 s2 => ?_
  have k3 := k1.trans k2
  refine newd_any (k3.get h3) (k3.get h4) hen ?_
  have hh := hk w2 _ _ k3 ⟨h2, Mo.bel hr.bel (s1.trans s2) hr.ge (Nat.le_refl _), hr.ge, rfl, rfl, hr.st⟩ (h5.kb k3)
  exact hh
/-- A program that told its call, and an answer. -/
structure Td (c : Cx) (l : Nat) (S : Ma → World → Prop) (m : Ma) (A : Array Value) (w : World) : Prop where
  run : Run c l w m
  st : S m w
  ans : w.heap[c.q]? = some (.cells A 35 (0, 0))
  rge : c.w0.heap.size ≤ c.q
theorem Run.kr {c : Cx} {l : Nat} {w w' : World} {m : Ma} (h : Run c l w m) (hm : M w' c.p m) (hb : Below c.w0.heap.size c.w0 w') (k : Kr c.q w w') : Run c l w' m := ⟨k.get h.lies, hm, hb, h.ge, h.st⟩
theorem Td.next {c : Cx} {l : Nat} {S0 S : Ma → World → Prop} {m : Ma} {A : Array Value} {w w1 : World} {e : Ending} (h : Td c l S0 m A w) (hn : NextP c.p w (Kst m S) e w1) : ∃ m1, e = .returned (.agg m1.c.cells) ∧ m1.told ∧ Td c l S m1 A w1 := by
  obtain ⟨m1, he, h1, h2, h3, h4, h5⟩ := hn
  have k := Kb.mo h.run.mach h3
  exact ⟨m1, he, h2, ⟨h.run.lies.kb k, h1, Mo.bel h.run.bel h3 h.run.ge (Nat.le_refl _), h.run.ge, h4.trans h.run.st⟩, h5, k.get h.ans, h.rge⟩
theorem Td.below {c : Cx} {l : Nat} {S : Ma → World → Prop} (hS : ∀ m w w', Kr c.q w w' → S m w → S m w') {m : Ma} {A : Array Value} {w w1 : World} (h : Td c l S m A w) (hb : Below w.heap.size w w1) : Td c l S m A w1 :=
  ⟨h.run.kr (h.run.mach.below hb) (h.run.bel.trans (hb.mono h.run.bel.size)) ((Kb.below hb).kr _), hS _ _ _ ((Kb.below hb).kr _) h.st, (Kb.below hb).get h.ans, h.rge⟩
theorem Td.sets {c : Cx} {l : Nat} {S : Ma → World → Prop} (hS : ∀ m w w', Kr c.q w w' → S m w → S m w') {m : Ma} {A : Array Value} {w w1 : World} (h : Td c l S m A w) {B : Array Value} (hB : w1.heap[c.q]? = some (.cells B 35 (0, 0))) (hk : ∀ b, b ≠ c.q → w1.heap[b]? = w.heap[b]?) (hb : Below c.w0.heap.size c.w0 w1) : Td c l S m B w1 := by
  have k : Kr c.q w w1 := fun b C T _ _ h3 e => (hk b (fun hq => by
    have e2 := h.ans
    rw [← hq, e] at e2
    injection e2 with e2
    injection e2 with _ e2 _
    exact h3 e2 hq)).trans e
  exact ⟨h.run.kr ((hk c.p (ne_of_type h.run.mach h.ans (by decide))).trans h.run.mach) hb k, hS _ _ _ k h.st, hB, h.rge⟩
theorem Td.set {c : Cx} {l : Nat} {S : Ma → World → Prop} (hS : ∀ m w w', Kr c.q w w' → S m w → S m w') {m : Ma} {A : Array Value} {w : World} (h : Td c l S m A w) (i : Nat) (v : Value) : Td c l S m (A.setIfInBounds i v) (w.setCell ⟨c.q, i, none⟩ v) :=
  h.sets hS (heap_setCell_same h.ans v) (fun b hb => Below.heap_setCell _ _ _ _ hb) (h.run.bel.setCell (p := ⟨c.q, i, none⟩) h.rge _)
theorem Td.whole {c : Cx} {l : Nat} {S : Ma → World → Prop} (hS : ∀ m w w', Kr c.q w w' → S m w → S m w') {m : Ma} {A : Array Value} {w : World} (h : Td c l S m A w) {C : Array Value} (hC : C.size = A.size) : Td c l S m C (w.setCells c.q 0 C.toList) :=
  h.sets hS (by rw [heap_setCells _ _ _ _ h.ans, putA_whole hC]) (fun b hb => heap_setCells_other hb _ _ _) (by
    have hb2 := h.run.bel
    exact ⟨(setCells_os _ _ _).1.trans hb2.os, (setCells_os _ _ _).2.1.trans hb2.tape, (setCells_os _ _ _).2.2.trans hb2.output, by rw [setCells_size]; exact hb2.size, fun j hj => (heap_setCells_other (by have := h.rge; omega) _ _ _).trans (hb2.block j hj)⟩)
/-- The call lies in a block of its own. -/
def Tc (w : World) (b : Nat) (m : Ma) : Prop := w.heap[b]? = some (.cells m.c.cells 39 (0, 0))
end Go.Proofs.YtlhlehdajkoogaaGreatDoor
/- A password that cannot be guessed; two programs. -/
namespace Go.Proofs.YtlhlehdajkoogaaGreatDoor
open Go.RowKit

def sStar : ByteArray := ⟨#[42]⟩
set_option maxRecDepth 100000 in
set_option maxHeartbeats 1000000 in
theorem star_any (ty : ByteArray) (w : World) :
    Calls Tryz.prog 100 #[.string sStar, .string ty] w fun e w' => e = .returned (.bool false) ∧ Below w.heap.size w w' := by
  have HR := Lib.hid (Pw.Mx.read_any sStar w (show 1 ≤ 140737488351232 by omega))
  have HN : Hid (¬ Pw.Mx.isField sStar.data.toList) := Lib.hid (by
    rintro ⟨h, t, he, h1, _⟩
    have := congrArg List.length he
    simp [sStar] at this
    omega)
  have h1 : sStar.toList.isEmpty = false := by rw [ByteArray.toList_eq]; rfl
  go_enter Tryz.func100, Tryz.ntmps100
  go_wp2_with fail
  refine HR.out.mono ?_
  rintro e w' ⟨n, ok, rfl, hb, hok, hn⟩
  have hf : ok = false := by
    cases ok with
    | false => rfl
    | true => exact absurd (hok.1 rfl) HN.out
  subst hf
  have HB := Lib.hid hb
  clear hok hb hn HR HN
  go_wp2
  go_ret
  exact ⟨rfl, HB.out⟩
set_option maxRecDepth 100000 in
theorem prog_su (w : World) : Calls Tryz.prog 25 #[.string ⟨#[115, 117]⟩] w fun e w' => e = .returned (.func (.func 47) #[] #[]) ∧ w' = w := by
  go_enter Tryz.func25, Tryz.ntmps25
  go_wp2
  go_ret
  exact ⟨rfl, rfl⟩
set_option maxRecDepth 100000 in
theorem prog_login (w : World) : Calls Tryz.prog 25 #[.string ⟨#[108, 111, 103, 105, 110]⟩] w fun e w' => e = .returned (.func (.func 46) #[] #[]) ∧ w' = w := by
  go_enter Tryz.func25, Tryz.ntmps25
  go_wp2
  go_ret
  exact ⟨rfl, rfl⟩
/-- A program that has begun nothing, in its place. -/
theorem Nw.run {w0 w : World} {prog : ByteArray} {d : FuncId} {s : ByteArray} {e : Ending} {l p pd pw : Nat} {v wv : Value} (h : Nw w0 w prog d s e l p pd pw v wv) {B : World} (hb : Below B.heap.size B w0) (q : Nat) :
    Run ⟨B, p, q, (prog, .slice none 0 0, false, 0)⟩ l w { prog := prog, todo := v, th := .nilFunc, c := { op := 0 } } ∧ NewS d s { prog := prog, todo := v, th := .nilFunc, c := { op := 0 } } w :=
  ⟨⟨h.l, h.m, hb.trans (h.bel.mono hb.size), Nat.le_trans hb.size h.ge, rfl⟩, prog, v, pd, pw, wv, rfl, h.one, h.pd, h.pw, h.words⟩
end Go.Proofs.YtlhlehdajkoogaaGreatDoor
/- Numbers in hexadecimal digits, and a password's field. No program in sight. -/
namespace Go.Proofs.Mz

abbrev Bytes := List UInt8

/-- The byte of a digit. -/
def dig (n : Nat) : UInt8 := UInt8.ofNat (if n < 10 then 48 + n else 87 + n)
/-- A number's digits, as many as it has. -/
def hexD (n : Nat) : Bytes := if n < 16 then [dig n] else hexD (n / 16) ++ [dig (n % 16)]
termination_by n
decreasing_by omega
/-- So many digits of a number. -/
def hexN : Nat → Nat → Bytes
  | 0, _ => []
  | k + 1, n => hexN k (n / 16) ++ [dig (n % 16)]
/-- A byte is a digit. -/
def isHex (c : UInt8) : Bool := (decide (48 ≤ c.toNat) && decide (c.toNat ≤ 57)) || (decide (97 ≤ c.toNat) && decide (c.toNat ≤ 102))
/-- A digit's number. -/
def val (c : UInt8) : Nat := if c.toNat ≤ 57 then c.toNat - 48 else c.toNat - 87
def readN (l : Bytes) : Nat := l.foldl (fun a c => 16 * a + val c) 0

theorem dig_toNat {n : Nat} (h : n < 16) : (dig n).toNat = if n < 10 then 48 + n else 87 + n := by
  unfold dig
  rw [UInt8.toNat_ofNat']
  split <;> omega
theorem dig_hex {n : Nat} (h : n < 16) : isHex (dig n) = true := by
  unfold isHex
  rw [dig_toNat h]
  split <;> simp <;> omega
theorem dig_val {n : Nat} (h : n < 16) : val (dig n) = n := by
  unfold val
  rw [dig_toNat h]
  split <;> split <;> omega
theorem val_lt {c : UInt8} (h : isHex c = true) : val c < 16 := by
  unfold isHex at h; unfold val
  simp at h
  split <;> omega
theorem val_dig {c : UInt8} (h : isHex c = true) : dig (val c) = c := by
  apply UInt8.toNat_inj.1
  rw [dig_toNat (val_lt h)]
  unfold isHex at h; unfold val
  simp at h
  split <;> split <;> omega

theorem hexN_len : ∀ k n, (hexN k n).length = k
  | 0, _ => rfl
  | k + 1, n => by simp [hexN, hexN_len k]
theorem hexN_zero : ∀ k, hexN k 0 = List.replicate k 48
  | 0 => rfl
  | k + 1 => by
    show hexN k (0 / 16) ++ [dig (0 % 16)] = _
    rw [Nat.zero_div, hexN_zero k, List.replicate_succ']
    rfl
theorem hexD_len_pos (n : Nat) : 0 < (hexD n).length := by
  unfold hexD
  split <;> simp
theorem hexD_pad : ∀ k n, 0 < k → n < 16 ^ k → (hexD n).length ≤ k ∧ List.replicate (k - (hexD n).length) 48 ++ hexD n = hexN k n
  | 0, _, h, _ => by omega
  | k + 1, n, _, h => by
    rw [hexD]
    by_cases h16 : n < 16
    · rw [if_pos h16]
      refine ⟨by simp, ?_⟩
      show _ = hexN k (n / 16) ++ [dig (n % 16)]
      rw [Nat.div_eq_of_lt h16, Nat.mod_eq_of_lt h16, hexN_zero]
      simp
    · rw [if_neg h16]
      have hk : 0 < k := by
        rcases Nat.eq_zero_or_pos k with rfl | h1
        · simp at h; omega
        · exact h1
      have h2 : n / 16 < 16 ^ k := by
        rw [Nat.div_lt_iff_lt_mul (by decide), ← Nat.pow_succ]; exact h
      obtain ⟨h3, h4⟩ := hexD_pad k (n / 16) hk h2
      refine ⟨by simp; omega, ?_⟩
      show _ = hexN k (n / 16) ++ [dig (n % 16)]
      rw [← h4, List.length_append, ← List.append_assoc]
      congr 2
      simp
theorem hexN_hex : ∀ k n, (hexN k n).all isHex = true
  | 0, _ => rfl
  | k + 1, n => by
    simp only [hexN, List.all_append, hexN_hex k, List.all_cons, dig_hex (Nat.mod_lt n (by decide : 0 < 16)), List.all_nil, Bool.and_self]
theorem readN_app (l : Bytes) (c : UInt8) : readN (l ++ [c]) = 16 * readN l + val c := by simp [readN, List.foldl_append]
theorem readN_hexN : ∀ k n, n < 16 ^ k → readN (hexN k n) = n
  | 0, n, h => by simp at h; subst h; rfl
  | k + 1, n, h => by
    have h2 : n / 16 < 16 ^ k := by
      rw [Nat.div_lt_iff_lt_mul (by decide), ← Nat.pow_succ]; exact h
    rw [hexN, readN_app, readN_hexN k _ h2, dig_val (Nat.mod_lt n (by decide))]
    omega
theorem rev_ind {P : Bytes → Prop} (h0 : P []) (h1 : ∀ l c, P l → P (l ++ [c])) (l : Bytes) : P l := by
  have h : ∀ r : Bytes, P r.reverse := by
    intro r
    induction r with
    | nil => exact h0
    | cons c r ih => rw [List.reverse_cons]; exact h1 _ _ ih
  have := h l.reverse
  rwa [List.reverse_reverse] at this
theorem readN_lt (l : Bytes) : l.all isHex = true → readN l < 16 ^ l.length := by
  refine rev_ind (P := fun l => l.all isHex = true → readN l < 16 ^ l.length) (fun _ => by decide) (fun l c ih h => ?_) l
  simp only [List.all_append, List.all_cons, List.all_nil, Bool.and_true, Bool.and_eq_true] at h
  have h1 := ih h.1
  have h2 := val_lt h.2
  rw [readN_app, List.length_append, List.length_singleton, Nat.pow_succ]
  omega
theorem hexN_readN (l : Bytes) : l.all isHex = true → hexN l.length (readN l) = l := by
  refine rev_ind (P := fun l => l.all isHex = true → hexN l.length (readN l) = l) (fun _ => rfl) (fun l c ih h => ?_) l
  simp only [List.all_append, List.all_cons, List.all_nil, Bool.and_true, Bool.and_eq_true] at h
  have h1 := ih h.1
  have h2 := val_lt h.2
  rw [readN_app, List.length_append, List.length_singleton, hexN, show (16 * readN l + val c) / 16 = readN l by omega, show (16 * readN l + val c) % 16 = val c by omega, h1, val_dig h.2]
theorem hexN_inj {k n m : Nat} (hn : n < 16 ^ k) (hm : m < 16 ^ k) (h : hexN k n = hexN k m) : n = m := by
  rw [← readN_hexN k n hn, h, readN_hexN k m hm]
theorem not_hex_dollar : isHex 36 = false := by decide

/-! ### A field -/
def fieldS (s m : Nat) : Bytes := hexN 4 s ++ 36 :: hexN 16 m
def isField (f : Bytes) : Prop := ∃ h t, f = h ++ 36 :: t ∧ h.length = 4 ∧ t.length = 16 ∧ h.all isHex = true ∧ t.all isHex = true
theorem fieldS_is (s m : Nat) : isField (fieldS s m) := ⟨_, _, rfl, hexN_len _ _, hexN_len _ _, hexN_hex _ _, hexN_hex _ _⟩
theorem fieldS_len (s m : Nat) : (fieldS s m).length = 21 := by simp [fieldS, hexN_len]
theorem fieldS_take (s m : Nat) : (fieldS s m).take 4 = hexN 4 s := by
  rw [fieldS, List.take_append_of_le_length (by rw [hexN_len]; omega), List.take_of_length_le (by rw [hexN_len]; omega)]
theorem fieldS_salt {s m : Nat} (hs : s < 65536) : readN ((fieldS s m).take 4) = s := by
  rw [fieldS_take, readN_hexN 4 s (by omega)]
theorem fieldS_inj {s m m' : Nat} (hm : m < 18446744073709551616) (hm' : m' < 18446744073709551616) : fieldS s m = fieldS s m' ↔ m = m' := by
  constructor
  · intro h
    have := List.append_cancel_left h
    simp only [List.cons.injEq, true_and] at this
    exact hexN_inj (k := 16) (by omega) (by omega) this
  · rintro rfl; rfl
end Go.Proofs.Mz
/- Mix of the program and of the document: one number. -/
namespace Go.Proofs.Mz
open Go.RowKit

def mstep (y : Int) (c : UInt8) : Int := IntKind.u64.wrap (bits .xor .u64 y (IntKind.u64.wrap (c.toNat : Int)) * 1099511628211)
def mlast (y : Int) : Int := IntKind.u64.wrap (bits .xor .u64 y (y / 536870912) * 11400714819323198485)
def mround (p : Bytes) (h : Int) : Int := mlast (p.foldl mstep h)
def miter (p : Bytes) : Nat → Int → Int
  | 0, h => h
  | k + 1, h => mround p (miter p k h)
def mixZ (a : Int) (p : Bytes) : Int := miter p 64 (bits .xor .u64 14695981039346656037 (IntKind.u64.wrap a))
def mixS (a : Nat) (p : Bytes) : Nat := (mixZ a p).toNat
theorem mix_cast (a : Nat) (p : Bytes) : mixZ a p = (mixS a p : Int) ∧ mixS a p < 18446744073709551616 := by
  have h : 0 ≤ mixZ a p ∧ mixZ a p < 18446744073709551616 := by
    show 0 ≤ mlast _ ∧ mlast _ < _
    unfold mlast
    rw [IntKind.wrap_u64]
    omega
  unfold mixS
  omega
theorem fold_step (s : ByteArray) (j : Nat) (h : j < s.size) (x : Int) : (s.data.toList.take (j + 1)).foldl mstep x = mstep ((s.data.toList.take j).foldl mstep x) s[j] := by
  have hl : j < s.data.toList.length := by simpa using h
  have : s.data.toList.take (j + 1) = s.data.toList.take j ++ [s.data.toList[j]] := by rw [List.take_succ_eq_append_getElem hl]
  rw [this, List.foldl_append]
  rfl
theorem wrap16 (n : Int) : IntKind.u16.wrap n = n % 65536 := by simp [IntKind.wrap, IntKind.bits, IntKind.signed]
theorem and16 (n : Int) : bits .and .i64 n 65535 = n % 65536 := by
  have h127 : (BitVec.ofInt 64 65535).toNat = 2 ^ 16 - 1 := by decide
  have key : (BitVec.ofInt 64 n &&& BitVec.ofInt 64 65535).toNat = (n % ((2 ^ 64 : Nat) : Int)).toNat % 2 ^ 16 := by
    rw [BitVec.toNat_and, BitVec.toNat_ofInt, h127, Nat.and_two_pow_sub_one_eq_mod]
  show IntKind.i64.wrap ((BitVec.ofInt 64 n &&& BitVec.ofInt 64 65535).toNat : Nat) = n % 65536
  rw [key, IntKind.wrap_i64]
  omega

set_option maxHeartbeats 1000000 in
theorem mix_any (n : Int) (s : ByteArray) (w : World) (hs : s.size ≤ 2000) :
    Calls Tryz.prog 179 #[.int .i64 n, .string s] w fun e w' => e = .returned (.int .u64 (mixZ (n % 65536) s.data.toList)) ∧ w' = w := by
  have hs1 : (s.size : Int) ≤ 2000 := by omega
  have h16 := wrap16 n
  have h64 : IntKind.u64.wrap (n % 65536) = n % 65536 := by rw [IntKind.wrap_u64]; omega
  unfold mixZ
  rw [h64]
  obtain ⟨x0, hx0⟩ : ∃ x, bits .xor .u64 14695981039346656037 (n % 65536) = x := ⟨_, rfl⟩
  rw [hx0]
  go_enter Tryz.func179, Tryz.ntmps179
  go_wp2
  clear hx0
  go_loopw [5, 6, 11] (fun h u i wr => ∃ (k : Nat) (x : Int), k ≤ 64 ∧ i = .int .i64 k ∧ h = .int .u64 x ∧ x = miter s.data.toList k x0 ∧ wr = w) (fun h u i _ => 64 - (intOf i).toNat)
  case atStart => exact ⟨0, x0, by omega, rfl, rfl, rfl, rfl⟩
  case round =>
    obtain ⟨k, x, hk, rfl, rfl, hx, rfl⟩ := hrel
    have HX := Lib.hid hx
    clear hx
    by_cases hlt : k < 64
    · have hlt1 : (k : Int) < 64 := by omega
      go_wp2
      go_loopw [5, 6, 15] (fun h u i wx => ∃ (j : Nat) (y : Int), j ≤ s.size ∧ i = .int .i64 j ∧ h = .int .u64 y ∧ y = (s.data.toList.take j).foldl mstep x ∧ wx = wr) (fun h u i _ => s.size - (intOf i).toNat)
      case atStart => exact ⟨0, x, by omega, rfl, rfl, rfl, rfl⟩
      case round =>
        obtain ⟨j, y, hj, rfl, rfl, hy, rfl⟩ := hrel
        have HY := Lib.hid hy
        clear hy
        by_cases hjl : j < s.size
        · have hjl1 : (j : Int) < s.size := by omega
          go_wp2
          go_roundw
          case rel => exact ⟨j + 1, _, by omega, by go_num, rfl, by rw [fold_step s j hjl, ← HY.out]; rfl, trivial⟩
          case measure => simp [intOf]; omega
        · have hjl1 : ¬ (j : Int) < s.size := by omega
          go_wp2
          go_roundw
          case rel => exact ⟨k + 1, _, by omega, by go_num, rfl, by
            have hall : s.data.toList.take j = s.data.toList := List.take_of_length_le (by rw [Array.length_toList]; show s.size ≤ j; omega)
            show _ = mlast (s.data.toList.foldl mstep (miter s.data.toList k x0))
            rw [← HX.out, ← hall, ← HY.out]; rfl, trivial⟩
          case measure => simp [intOf]; omega
    · have hlt1 : ¬ (k : Int) < 64 := by omega
      obtain rfl : k = 64 := by omega
      go_wp2
      go_ret
      rw [HX.out]
      exact ⟨rfl, rfl⟩

set_option maxHeartbeats 1000000 in
theorem rmix_any (n : Int) (s : ByteArray) (w : World) (hs : s.size ≤ 2000) :
    Calls Tryz.prog 41 #[.int .i64 n, .string s] w fun e w' => e = .returned (.int .u64 (mixZ (n % 65536) s.data.toList)) ∧ w' = w := by
  have hs1 : (s.size : Int) ≤ 2000 := by omega
  have h16 := and16 n
  have h64 : IntKind.u64.wrap (n % 65536) = n % 65536 := by rw [IntKind.wrap_u64]; omega
  unfold mixZ
  rw [h64]
  obtain ⟨x0, hx0⟩ : ∃ x, bits .xor .u64 14695981039346656037 (n % 65536) = x := ⟨_, rfl⟩
  rw [hx0]
  go_enter Tryz.func41, Tryz.ntmps41
  go_wp2
  clear hx0
  go_loopw [5, 6, 7] (fun h i u wr => ∃ (k : Nat) (x : Int), k ≤ 64 ∧ i = .int .i64 k ∧ h = .int .u64 x ∧ x = miter s.data.toList k x0 ∧ wr = w) (fun h i u _ => 64 - (intOf i).toNat)
  case atStart => exact ⟨0, x0, by omega, rfl, rfl, rfl, rfl⟩
  case round =>
    obtain ⟨k, x, hk, rfl, rfl, hx, rfl⟩ := hrel
    have HX := Lib.hid hx
    clear hx
    by_cases hlt : k < 64
    · have hlt1 : (k : Int) < 64 := by omega
      go_wp2
      go_loopw [5, 7] (fun h i wx => ∃ (j : Nat) (y : Int), j ≤ s.size ∧ i = .int .i64 j ∧ h = .int .u64 y ∧ y = (s.data.toList.take j).foldl mstep x ∧ wx = wr) (fun h i _ => s.size - (intOf i).toNat)
      case atStart => exact ⟨0, x, by omega, rfl, rfl, rfl, rfl⟩
      case round =>
        obtain ⟨j, y, hj, rfl, rfl, hy, rfl⟩ := hrel
        have HY := Lib.hid hy
        clear hy
        by_cases hjl : j < s.size
        · have hjl1 : (j : Int) < s.size := by omega
          go_wp2
          go_roundw
          case rel => exact ⟨j + 1, _, by omega, by go_num, rfl, by rw [fold_step s j hjl, ← HY.out]; rfl, trivial⟩
          case measure => simp [intOf]; omega
        · have hjl1 : ¬ (j : Int) < s.size := by omega
          go_wp2
          go_roundw
          case rel => exact ⟨k + 1, _, by omega, by go_num, rfl, by
            have hall : s.data.toList.take j = s.data.toList := List.take_of_length_le (by rw [Array.length_toList]; show s.size ≤ j; omega)
            show _ = mlast (s.data.toList.foldl mstep (miter s.data.toList k x0))
            rw [← HX.out, ← hall, ← HY.out]; rfl, trivial⟩
          case measure => simp [intOf]; omega
    · have hlt1 : ¬ (k : Int) < 64 := by omega
      obtain rfl : k = 64 := by omega
      go_wp2
      go_ret
      rw [HX.out]
      exact ⟨rfl, rfl⟩
end Go.Proofs.Mz
/- FormatUint at base 16, and the digits of a field. -/
namespace Go.Proofs.Mz
open Go.RowKit

theorem heap_cell {w : World} {b : Nat} {C : Array Value} {T : TypeId} {f : Nat × Nat} (h : w.heap[b]? = some (.cells C T f)) (i : Nat) : w.cell? ⟨b, i, none⟩ = C[i]? := by simp [World.cell?, h]
theorem heap_free {w : World} {b : Nat} {C : Array Value} {T : TypeId} (h : w.heap[b]? = some (.cells C T (0, 0))) (i : Nat) : w.frozen? ⟨b, i, none⟩ = false := by simp [World.frozen?, h]
theorem set_same {w : World} {b i : Nat} {C : Array Value} {T : TypeId} {f : Nat × Nat} (h : w.heap[b]? = some (.cells C T f)) (v : Value) : (w.setCell ⟨b, i, none⟩ v).heap[b]? = some (.cells (C.setIfInBounds i v) T f) := by
  simp [World.setCell, Array.getElem?_modify, h]
theorem at_new (w : World) (o : Obj) : (w.alloc o).heap[w.heap.size]? = some o := by
  show (w.heap.push o)[w.heap.size]? = some o
  simp

theorem drop_set {cs : Array Value} {m : Nat} {c : UInt8} {L : Bytes} (h0 : 0 < m) (h1 : m - 1 < cs.size) (h : cs.toList.drop m = L.map (fun b => Value.int .u8 (b.toNat : Int))) :
    (cs.setIfInBounds (m - 1) (.int .u8 c.toNat)).toList.drop (m - 1) = (c :: L).map (fun b => Value.int .u8 (b.toNat : Int)) := by
  rw [Array.toList_setIfInBounds]
  have hl : m - 1 < (cs.toList.set (m - 1) (.int .u8 c.toNat)).length := by rw [List.length_set]; simpa using h1
  rw [List.drop_eq_getElem_cons hl, List.getElem_set_self, show m - 1 + 1 = m by omega, List.drop_set_of_lt (by omega), h]
  rfl
theorem add_plain (b o j : Nat) : (⟨b, o, none⟩ : Addr).add j = ⟨b, o + j, none⟩ := by
  cases j <;> rfl
theorem al90 : Tryz.prog.arrayLen 210 = 65 := by kernel_rfl
theorem digs0 : ∀ j : Fin 16, (⟨#[48, 49, 50, 51, 52, 53, 54, 55, 56, 57, 97, 98, 99, 100, 101, 102, 103, 104, 105, 106, 107, 108, 109, 110, 111, 112, 113, 114, 115, 116, 117, 118, 119, 120, 121, 122]⟩ : ByteArray)[j.val]'(by have := j.isLt; show j.val < 36; omega) = dig j.val := by decide
theorem digs (q : Nat) (h : q < 16) (h2 : q < (⟨#[48, 49, 50, 51, 52, 53, 54, 55, 56, 57, 97, 98, 99, 100, 101, 102, 103, 104, 105, 106, 107, 108, 109, 110, 111, 112, 113, 114, 115, 116, 117, 118, 119, 120, 121, 122]⟩ : ByteArray).size) : (⟨#[48, 49, 50, 51, 52, 53, 54, 55, 56, 57, 97, 98, 99, 100, 101, 102, 103, 104, 105, 106, 107, 108, 109, 110, 111, 112, 113, 114, 115, 116, 117, 118, 119, 120, 121, 122]⟩ : ByteArray)[q] = dig q := digs0 ⟨q, h⟩

theorem rep_one : ∀ n, Lib.repeatL [48] n = List.replicate n (48 : UInt8)
  | 0 => rfl
  | n + 1 => by
    rw [List.replicate_succ, ← rep_one n]; rfl
theorem two_any (w : World) : Calls Tryz.prog 234 #[.int .i64 16] w fun e w' => e = .returned (.bool true) ∧ w' = w := by
  have h : bits .and .i64 16 15 = 0 := by decide
  go_enter Tryz.func234, Tryz.ntmps234
  go_wp2
  go_ret
  exact ⟨rfl, rfl⟩
theorem tz64_any (w : World) (hT : w.cell? ⟨7, 15, none⟩ = some (.int .u8 4)) : Calls Tryz.prog 252 #[.int .u64 16] w fun e w' => e = .returned (.int .i64 4) ∧ w' = w := by
  have h1 : bits .and .u64 16 (IntKind.u64.wrap (-16)) = 16 := by decide
  have h2 : IntKind.u64.wrap (16 * 285870213051353865) / 288230376151711744 = 15 := by decide
  go_enter Tryz.func252, Tryz.ntmps252
  go_wp2
  go_ret
  exact ⟨rfl, rfl⟩
theorem tz_any (w : World) (hT : w.cell? ⟨7, 15, none⟩ = some (.int .u8 4)) : Calls Tryz.prog 235 #[.int .u64 16] w fun e w' => e = .returned (.int .i64 4) ∧ w' = w := by
  go_enter Tryz.func235, Tryz.ntmps235
  go_wp2_with fail
  refine (tz64_any _ hT).mono ?_
  rintro e w' ⟨rfl, rfl⟩
  go_wp2
  go_ret
  exact ⟨rfl, rfl⟩

set_option maxHeartbeats 1000000 in
set_option maxRecDepth 100000 in
theorem fb_any (n : Nat) (hn : n < 18446744073709551616) (w : World) (hT : w.cell? ⟨7, 15, none⟩ = some (.int .u8 4)) :
    Calls Tryz.prog 217 #[.slice none 0 0, .int .u64 n, .int .i64 16, .bool false, .bool false] w fun e w' =>
      ∃ s : ByteArray, s.data.toList = hexD n ∧ e = .returned (.tuple #[.slice none 0 0, .string s]) ∧ Below w.heap.size w w' := by
  go_enter Tryz.func217, Tryz.ntmps217
  go_wp2_with fail
  refine (two_any _).mono ?_
  rintro e w' ⟨rfl, rfl⟩
  go_wp2_with fail
  have hz : (w.alloc (Obj.cells Tryz.zeroCells210 210)).heap[w.heap.size]? = some (.cells Tryz.zeroCells210 210 (0, 0)) := at_new _ _
  have hT1 : (w.alloc (Obj.cells Tryz.zeroCells210 210)).cell? ⟨7, 15, none⟩ = some (.int .u8 4) := by
    rw [((Below.refl w.heap.size w).alloc (Nat.le_refl _) _).cell (p := ⟨7, 15, none⟩) (World.block_lt_of_cell? w ⟨7, 15, none⟩ hT)]; exact hT
  have hb0 : Below w.heap.size w (w.alloc (Obj.cells Tryz.zeroCells210 210)) := (Below.refl _ _).alloc (Nat.le_refl _) _
  have hzs : Tryz.zeroCells210.size = 65 := by kernel_rfl
  refine (tz_any _ hT1).mono ?_
  rintro e w' ⟨rfl, rfl⟩
  generalize w.alloc (Obj.cells Tryz.zeroCells210 210) = W0 at *
  generalize Tryz.zeroCells210 = Z at *
  have HZ := Lib.hid hz
  have HB0 := Lib.hid hb0
  have HZS := Lib.hid hzs
  clear hz hb0 hzs hT1
  go_wp2
  go_loopw [1, 13] (fun vu vi wr => ∃ (u m : Nat) (cs : Array Value) (L : Bytes), vu = .int .u64 u ∧ vi = .int .i64 m ∧ 50 ≤ m ∧ m ≤ 65 ∧ u < 16 ^ (m - 49) ∧ wr.heap[w.heap.size]? = some (.cells cs 210 (0, 0)) ∧ cs.size = 65 ∧ Hid (Below w.heap.size w wr ∧ hexD n = hexD u ++ L ∧ L.length + m = 65 ∧ cs.toList.drop m = L.map (fun b => Value.int .u8 (b.toNat : Int)))) (fun vu vi _ => (intOf vi).toNat)
  case atStart => exact ⟨n, 65, Z, [], rfl, rfl, by omega, by omega, by simpa using hn, HZ.out, HZS.out, Lib.hid ⟨HB0.out, by simp, rfl, by rw [List.drop_of_length_le (by rw [Array.length_toList, HZS.out]; omega)]; rfl⟩⟩
  case round =>
    obtain ⟨u, m, cs, L, rfl, rfl, hm0, hm1, hlt, hcs, hsz, hh⟩ := hrel
    have i1 : ((m : Int) - 1).toNat = m - 1 := by omega
    have i2 : m - 1 < cs.size := by omega
    have c1 := heap_cell hcs (m - 1)
    rw [Array.getElem?_eq_getElem i2] at c1
    have c2 := heap_free hcs (m - 1)
    have HC := Lib.hid hcs
    have HS := Lib.hid hsz
    have HL := Lib.hid hlt
    generalize cs[m - 1] = old at c1
    clear hcs hsz hlt
    by_cases hu : u < 16
    · have hu1 : ¬ (16 : Int) ≤ u := by omega
      have hu2 : (u : Int) < 36 := by omega
      have hu3 : u < 36 := by omega
      have HU := Lib.hid hu
      clear hu
      go_upto_region 30 with fail
      rw [digs u HU.out]
      have hc5 : (wr.setCell ⟨w.heap.size, m - 1, none⟩ (.int .u8 (dig u).toNat)).heap[w.heap.size]? = some (.cells (cs.setIfInBounds (m - 1) (.int .u8 (dig u).toNat)) 210 (0, 0)) := set_same HC.out _
      have hb5 : Below w.heap.size w (wr.setCell ⟨w.heap.size, m - 1, none⟩ (.int .u8 (dig u).toNat)) := hh.out.1.setCell (Nat.le_refl _) _
      generalize wr.setCell ⟨w.heap.size, m - 1, none⟩ (.int .u8 (dig u).toNat) = W5 at *
      have hL : hexD n = dig u :: L := by rw [hh.out.2.1, hexD, if_pos HU.out]; rfl
      have hlen : L.length + 1 = 66 - m := by have := hh.out.2.2.1; omega
      have hlist : (cs.setIfInBounds (m - 1) (.int .u8 (dig u).toNat)).toList.drop (m - 1) = (hexD n).map (fun b => Value.int .u8 (b.toNat : Int)) := by
        rw [hL]; exact drop_set (by omega) (by have := HS.out; omega) hh.out.2.2.2
      have hsl : ∀ W, (Instr.sliceAt 210 (.pointer (some ⟨w.heap.size, 0, none⟩)) (some (.int .i64 ((m : Int) - 1))) none none).run Tryz.prog W = .ok (.slice (some ⟨w.heap.size, m - 1, none⟩) (66 - m) (66 - m)) W := fun W => by
        rw [run_sliceAt_array_l W 210 ⟨w.heap.size, 0, none⟩ (by kernel_rfl) .i64 ((m : Int) - 1) (by omega) (by rw [al90]; omega), al90]
        go_simp
        omega
      have hcv : (convert 59 9 (.slice (some ⟨w.heap.size, m - 1, none⟩) (66 - m) (66 - m))).run Tryz.prog W5 = .ok (.string ⟨(hexD n).toArray⟩) W5 := by
        have h := run_convert_bytes_back (P := Tryz.prog) W5 59 9 5 ⟨w.heap.size, m - 1, none⟩ (66 - m) (hexD n) Tryz.underlying59 Tryz.underlying5 Tryz.underlying9 (fun j hj => by
          rw [add_plain, heap_cell hc5 (m - 1 + j)]
          have h1 := congrArg (fun l : List Value => l[j]?) hlist
          simp only [List.getElem?_drop, List.getElem?_map, List.getElem?_eq_getElem hj, Option.map_some, Array.getElem?_toList] at h1
          exact h1)
        rw [show (hexD n).length = 66 - m by rw [hL, List.length_cons, hlen]] at h
        exact h
      go_wp2
      exact bodyPost_ret (v := .tuple #[.slice none 0 0, .string ⟨(dig u :: L).toArray⟩]) (by simp [results, Tryz.results217, go_sem]) rfl ⟨⟨(dig u :: L).toArray⟩, by simp, rfl, hb5⟩
    · have hu1 : (16 : Int) ≤ u := by omega
      have h15 : bits .and .u64 (u : Int) 15 = ((u % 16 : Nat) : Int) := by
        have := HL.out
        have h16 : 16 ^ (m - 49) ≤ 16 ^ 16 := Nat.pow_le_pow_right (by decide) (by omega)
        have := bits_mask .u64 64 (by decide) (fun n h0 h1 => by rw [IntKind.wrap_u64]; omega) 4 (by decide) (u : Int) (by omega) (by omega)
        simp at this
        rw [this]; omega
      have hr : u % 16 < 16 := Nat.mod_lt _ (by decide)
      obtain ⟨q, hq⟩ : ∃ q, u % 16 = q := ⟨_, rfl⟩
      rw [hq] at h15 hr
      have HQ := Lib.hid hq
      have hr3 : q < 36 := by omega
      clear hq
      go_wp2
      go_roundw
      case rel =>
        rw [digs q hr]
        refine ⟨u / 16, m - 1, _, dig q :: L, by rw [show ((u / 16 : Nat) : Int) = (u : Int) / 16 by omega], by rw [show ((m - 1 : Nat) : Int) = (m : Int) - 1 by omega], ?_, by omega, ?_, set_same HC.out _, by rw [Array.size_setIfInBounds]; exact HS.out, Lib.hid ⟨hh.out.1.setCell (Nat.le_refl _) _, ?_, ?_, ?_⟩⟩
        · rcases Nat.eq_or_lt_of_le hm0 with h | h
          · have := HL.out
            rw [← h] at this; simp at this; omega
          · omega
        · have h := HL.out
          rw [show m - 49 = (m - 1 - 49) + 1 by omega, Nat.pow_succ] at h
          rw [Nat.div_lt_iff_lt_mul (by decide)]; exact h
        · rw [hh.out.2.1, hexD, if_neg hu, HQ.out, List.append_assoc]; rfl
        · rw [List.length_cons]; have := hh.out.2.2.1; omega
        · exact drop_set (by omega) (by have := HS.out; omega) hh.out.2.2.2
      case measure => simp [intOf]; omega

theorem ifu_any (n : Nat) (hn : n < 18446744073709551616) (w : World) (hT : w.cell? ⟨7, 15, none⟩ = some (.int .u8 4)) :
    Calls Tryz.prog 226 #[.int .u64 n, .int .i64 16] w fun e w' => ∃ s : ByteArray, s.data.toList = hexD n ∧ e = .returned (.string s) ∧ Below w.heap.size w w' := by
  go_enter Tryz.func226, Tryz.ntmps226
  go_wp2_with fail
  refine (fb_any n hn _ hT).mono ?_
  rintro e w' ⟨s, hs, rfl, hb⟩
  have HS := Lib.hid hs
  have HB := Lib.hid hb
  clear hs hb
  go_wp2
  go_ret
  exact ⟨s, HS.out, rfl, HB.out⟩
theorem fu_any (n : Nat) (hn : n < 18446744073709551616) (w : World) (hT : w.cell? ⟨7, 15, none⟩ = some (.int .u8 4)) :
    Calls Tryz.prog 207 #[.int .u64 n, .int .i64 16] w fun e w' => ∃ s : ByteArray, s.data.toList = hexD n ∧ e = .returned (.string s) ∧ Below w.heap.size w w' := by
  go_enter Tryz.func207, Tryz.ntmps207
  go_wp2_with fail
  refine (ifu_any n hn _ hT).mono ?_
  rintro e w' ⟨s, hs, rfl, hb⟩
  have HS := Lib.hid hs
  have HB := Lib.hid hb
  clear hs hb
  go_wp2
  go_ret
  exact ⟨s, HS.out, rfl, HB.out⟩

/-- The digits of a number, as many as are wanted. -/
theorem digits_any (n k : Nat) (hk : 0 < k) (hk2 : k ≤ 16) (hn : n < 16 ^ k) (w : World) (hT : w.cell? ⟨7, 15, none⟩ = some (.int .u8 4)) :
    Calls Tryz.prog 178 #[.int .u64 n, .int .i64 k] w fun e w' => ∃ s : ByteArray, s.data.toList = hexN k n ∧ e = .returned (.string s) ∧ Below w.heap.size w w' := by
  have hn2 : n < 18446744073709551616 := Nat.lt_of_lt_of_le hn (by have : 16 ^ k ≤ 16 ^ 16 := Nat.pow_le_pow_right (by decide) hk2; omega)
  obtain ⟨hp1, hp2⟩ := hexD_pad k n hk hn
  have HP := Lib.hid hp2
  have HN := Lib.hid hn
  clear hp2 hn
  go_enter Tryz.func178, Tryz.ntmps178
  go_wp2_with fail
  refine (fu_any n hn2 _ hT).mono ?_
  rintro e w1 ⟨s, hs, rfl, hb⟩
  have hsz : s.size = (hexD n).length := by rw [← hs]; simp
  rw [← hsz] at hp1
  have i1 : (k : Int) - s.size = ((k - s.size : Nat) : Int) := by omega
  have i2 : IntKind.i64.wrap ((k : Int) - s.size) = ((k - s.size : Nat) : Int) := by rw [IntKind.wrap_i64]; omega
  have HS := Lib.hid hs
  have HB := Lib.hid hb
  have HZ := Lib.hid hsz
  clear hs hb hsz
  go_wp2_with fail
  refine (Tryz.strings_Repeat _ (k - s.size) _ (by omega) (by show 1 * (k - s.size) ≤ _; omega)).mono ?_
  rintro e w2 ⟨rfl, hb2⟩
  have HB2 := Lib.hid (HB.out.trans (hb2.mono HB.out.size))
  clear hb2
  obtain ⟨R, hR⟩ : ∃ R : ByteArray, (⟨(Lib.repeatL (⟨#[48]⟩ : ByteArray).data.toList (k - s.size)).toArray⟩ : ByteArray) = R := ⟨_, rfl⟩
  have hRl : R.data.toList = List.replicate (k - s.size) 48 := by
    rw [← hR]
    show Lib.repeatL [48] (k - s.size) = _
    exact rep_one _
  have hRs : R.size ≤ 16 := by
    have := congrArg List.length hRl
    simp at this; omega
  have HRL := Lib.hid hRl
  rw [hR]
  clear hR hRl
  go_wp2
  go_ret
  refine ⟨_, ?_, rfl, HB2.out⟩
  rw [ByteArray.data_append, Array.toList_append, HRL.out, HS.out, HZ.out, HP.out]
end Go.Proofs.Mz
/- The field of a password, by the program and by the document. -/
namespace Go.Proofs.Mz
open Go.RowKit

/-- The lowest sixteen bits. -/
def sl (n : Int) : Nat := (n % 65536).toNat
theorem sl_cast (n : Int) : n % 65536 = (sl n : Int) ∧ sl n < 65536 := by unfold sl; omega
/-- The field of a salt and a password. -/
def FS (n : Int) (p : ByteArray) : Bytes := fieldS (sl n) (mixS (sl n) p.data.toList)
def HasT (w : World) : Prop := w.cell? ⟨7, 15, none⟩ = some (.int .u8 4)
theorem HasT.below {w W : World} (h : HasT w) (hb : Below w.heap.size w W) : HasT W := by
  have hl := World.block_lt_of_cell? w ⟨7, 15, none⟩ h
  unfold HasT
  rw [hb.cell (p := ⟨7, 15, none⟩) hl]; exact h

set_option maxHeartbeats 1000000 in
theorem field_any (n : Int) (p : ByteArray) (w : World) (hp : p.size ≤ 2000) (hT : HasT w) :
    Calls Tryz.prog 144 #[.int .i64 n, .string p] w fun e w' => ∃ s : ByteArray, s.data.toList = FS n p ∧ e = .returned (.string s) ∧ Below w.heap.size w w' := by
  obtain ⟨h16, h17⟩ := sl_cast n
  have hw16 : IntKind.u16.wrap n = (sl n : Int) := by rw [wrap16, h16]
  have hw64 : IntKind.u64.wrap (sl n : Int) = (sl n : Int) := by rw [IntKind.wrap_u64]; omega
  have hF : FS n p = hexN 4 (sl n) ++ 36 :: hexN 16 (mixS (sl n) p.data.toList) := rfl
  obtain ⟨hm1, hm2⟩ := mix_cast (sl n) p.data.toList
  rw [← h16] at hm1
  have HM := Lib.hid hm1
  have HM2 := Lib.hid hm2
  have HF := Lib.hid hF
  have H16 := Lib.hid h16
  clear hm1 hm2 hF h16
  generalize FS n p = F at *
  generalize mixS (sl n) p.data.toList = M at *
  generalize sl n = S at *
  go_enter Tryz.func144, Tryz.ntmps144
  go_wp2_with fail
  refine (digits_any S 4 (by omega) (by omega) (by omega) _ hT).mono ?_
  rintro e w1 ⟨s1, hs1, rfl, hb1⟩
  have hz1 : s1.size = 4 := by have := congrArg List.length hs1; rw [hexN_len] at this; simpa using this
  have HS1 := Lib.hid hs1
  have HB1 := Lib.hid hb1
  clear hs1 hb1
  go_wp2_with fail
  refine (mix_any n p _ hp).mono ?_
  rintro e w2 ⟨rfl, rfl⟩
  rw [HM.out]
  go_wp2_with fail
  refine (digits_any M 16 (by omega) (by omega) (by have := HM2.out; omega) _ (hT.below HB1.out)).mono ?_
  rintro e w3 ⟨s2, hs2, rfl, hb2⟩
  have hz2 : s2.size = 16 := by have := congrArg List.length hs2; rw [hexN_len] at this; simpa using this
  have HS2 := Lib.hid hs2
  have HB2 := Lib.hid (HB1.out.trans (hb2.mono HB1.out.size))
  clear hs2 hb2
  go_wp2
  go_ret
  refine ⟨_, ?_, rfl, HB2.out⟩
  rw [HF.out, ByteArray.data_append, ByteArray.data_append, Array.toList_append, Array.toList_append, HS1.out, HS2.out]
  simp

theorem info5 : ∃ i0, Tryz.prog.info? 5 = some i0 ∧ i0.zero = some (.int .u8 0) ∧ i0.size = 1 ∧ i0.bytes = 1 := by
  have h : (Tryz.prog.info? 5).map (fun i => (i.zero, i.size, i.bytes)) = some (some (.int .u8 0), 1, 1) := by kernel_rfl
  cases hh : Tryz.prog.info? 5 with
  | none => rw [hh] at h; cases h
  | some i => rw [hh] at h; simp at h; exact ⟨i, rfl, h.1, h.2.1, h.2.2⟩
theorem rdigs0 : ∀ j : Fin 16, (⟨#[48, 49, 50, 51, 52, 53, 54, 55, 56, 57, 97, 98, 99, 100, 101, 102]⟩ : ByteArray)[j.val]'(by have := j.isLt; show j.val < 16; omega) = dig j.val := by decide
theorem rdigs (q : Nat) (h : q < 16) (h2 : q < (⟨#[48, 49, 50, 51, 52, 53, 54, 55, 56, 57, 97, 98, 99, 100, 101, 102]⟩ : ByteArray).size) : (⟨#[48, 49, 50, 51, 52, 53, 54, 55, 56, 57, 97, 98, 99, 100, 101, 102]⟩ : ByteArray)[q] = dig q := rdigs0 ⟨q, h⟩

set_option maxHeartbeats 1000000 in
set_option maxRecDepth 100000 in
theorem rdigits_4 (n : Nat) (hn : n < 16 ^ 4) (w : World) :
    Calls Tryz.prog 40 #[.int .u64 n, .int .i64 4] w fun e w' => ∃ s : ByteArray, s.data.toList = hexN 4 n ∧ e = .returned (.string s) ∧ Below w.heap.size w w' := by
  have hlt : n < 18446744073709551616 := by omega
  clear hn
  obtain ⟨Z, hmk, hZ⟩ : ∃ Z : Array Value, (Instr.makeSlice 59 (.int .i64 4) (.int .i64 4)).run Tryz.prog w = .ok (.slice (some ⟨w.heap.size, 0, none⟩) 4 4) (w.alloc (.cells Z 5)) ∧ Z.size = 4 := by
    obtain ⟨i0, hi, hz0, hz1, hz4⟩ := info5
    refine ⟨_, run_makeSlice w 59 5 i0 (.int .u8 0) Tryz.underlying59 hi hz0 .i64 .i64 4 4 (by omega) (by omega) (by rw [hz1]; decide) (by rw [hz4]; decide) (by omega), ?_⟩
    rw [hz1, size_madeCells]; rfl
  have hz : (w.alloc (Obj.cells Z 5)).heap[w.heap.size]? = some (.cells Z 5 (0, 0)) := at_new _ _
  have hb0 : Below w.heap.size w (w.alloc (Obj.cells Z 5)) := (Below.refl _ _).alloc (Nat.le_refl _) _
  generalize w.alloc (Obj.cells Z 5) = W0 at *
  have HZ := Lib.hid hz
  have HB0 := Lib.hid hb0
  have HZS := Lib.hid hZ
  have HLT := Lib.hid hlt
  clear hz hb0 hZ hlt
  go_enter Tryz.func40, Tryz.ntmps40
  go_wp2
  clear hmk
  go_loopw [0, 6] (fun vu vi wr => ∃ (u m : Nat) (cs : Array Value) (L : Bytes), vu = .int .u64 u ∧ vi = .int .i64 ((m : Int) - 1) ∧ m ≤ 4 ∧ u < 18446744073709551616 ∧ wr.heap[w.heap.size]? = some (.cells cs 5 (0, 0)) ∧ cs.size = 4 ∧ Hid (Below w.heap.size w wr ∧ hexN 4 n = hexN m u ++ L ∧ L.length + m = 4 ∧ cs.toList.drop m = L.map (fun b => Value.int .u8 (b.toNat : Int)))) (fun vu vi _ => (intOf vi + 1).toNat)
  case atStart => exact ⟨n, 4, Z, [], rfl, rfl, by omega, HLT.out, HZ.out, HZS.out, Lib.hid ⟨HB0.out, by simp, rfl, by rw [List.drop_of_length_le (by rw [Array.length_toList, HZS.out]; omega)]; rfl⟩⟩
  case round =>
    obtain ⟨u, m, cs, L, rfl, rfl, hm1, hlt, hcs, hsz, hh⟩ := hrel
    have HC := Lib.hid hcs
    have HS := Lib.hid hsz
    have HL := Lib.hid hlt
    by_cases hm : m = 0
    · subst hm
      have hlist : cs.toList = (hexN 4 n).map (fun b => Value.int .u8 (b.toNat : Int)) := by
        have := hh.out.2.2.2
        rw [hh.out.2.1]; exact this
      have hcv : (convert 59 9 (.slice (some ⟨w.heap.size, 0, none⟩) 4 4)).run Tryz.prog wr = .ok (.string ⟨(hexN 4 n).toArray⟩) wr := by
        have h := run_convert_bytes_back (P := Tryz.prog) wr 59 9 5 ⟨w.heap.size, 0, none⟩ 4 (hexN 4 n) Tryz.underlying59 Tryz.underlying5 Tryz.underlying9 (fun j hj => by
          rw [add_plain, heap_cell HC.out (0 + j)]
          have h1 := congrArg (fun l : List Value => l[j]?) hlist
          simp only [List.getElem?_map, List.getElem?_eq_getElem hj, Option.map_some, Array.getElem?_toList] at h1
          rw [Nat.zero_add]; exact h1)
        rw [hexN_len] at h
        exact h
      clear hcs hsz hlt hlist
      go_wp2
      go_ret
      exact ⟨⟨(hexN 4 n).toArray⟩, by simp, rfl, hh.out.1⟩
    · have i1 : ((m : Int) - 1).toNat = m - 1 := by omega
      have i2 : m - 1 < cs.size := by omega
      have i3 : (0 : Int) ≤ (m : Int) - 1 := by omega
      have i4 : (1 : Int) ≤ m := by omega
      have c1 := heap_cell hcs (m - 1)
      rw [Array.getElem?_eq_getElem i2] at c1
      have c2 := heap_free hcs (m - 1)
      generalize cs[m - 1] = old at c1
      have h15 : bits .and .u64 (u : Int) 15 = ((u % 16 : Nat) : Int) := by
        have := bits_mask .u64 64 (by decide) (fun n h0 h1 => by rw [IntKind.wrap_u64]; omega) 4 (by decide) (u : Int) (by omega) (by omega)
        simp at this
        rw [this]; omega
      have hr : u % 16 < 16 := Nat.mod_lt _ (by decide)
      obtain ⟨q, hq⟩ : ∃ q, u % 16 = q := ⟨_, rfl⟩
      rw [hq] at h15 hr
      have HQ := Lib.hid hq
      have hr3 : (q : Int) < 16 := by omega
      clear hq hcs hsz hlt
      go_wp2
      go_roundw
      case rel =>
        rw [rdigs q hr]
        refine ⟨u / 16, m - 1, _, dig q :: L, by rw [show ((u / 16 : Nat) : Int) = (u : Int) / 16 by omega], ?_, by omega, by have := HL.out; omega, set_same HC.out _, by rw [Array.size_setIfInBounds]; exact HS.out, Lib.hid ⟨hh.out.1.setCell (Nat.le_refl _) _, ?_, ?_, ?_⟩⟩
        · rw [show ((m - 1 : Nat) : Int) = (m : Int) - 1 by omega]
        · rw [hh.out.2.1]
          obtain ⟨m', rfl⟩ : ∃ m', m = m' + 1 := ⟨m - 1, by omega⟩
          rw [hexN, HQ.out, List.append_assoc]; rfl
        · rw [List.length_cons]; have := hh.out.2.2.1; omega
        · exact drop_set (by omega) (by have := HS.out; omega) hh.out.2.2.2
      case measure => simp [intOf]; omega

set_option maxHeartbeats 1000000 in
set_option maxRecDepth 100000 in
theorem rdigits_16 (n : Nat) (hn : n < 16 ^ 16) (w : World) :
    Calls Tryz.prog 40 #[.int .u64 n, .int .i64 16] w fun e w' => ∃ s : ByteArray, s.data.toList = hexN 16 n ∧ e = .returned (.string s) ∧ Below w.heap.size w w' := by
  have hlt : n < 18446744073709551616 := by omega
  clear hn
  obtain ⟨Z, hmk, hZ⟩ : ∃ Z : Array Value, (Instr.makeSlice 59 (.int .i64 16) (.int .i64 16)).run Tryz.prog w = .ok (.slice (some ⟨w.heap.size, 0, none⟩) 16 16) (w.alloc (.cells Z 5)) ∧ Z.size = 16 := by
    obtain ⟨i0, hi, hz0, hz1, hz4⟩ := info5
    refine ⟨_, run_makeSlice w 59 5 i0 (.int .u8 0) Tryz.underlying59 hi hz0 .i64 .i64 16 16 (by omega) (by omega) (by rw [hz1]; decide) (by rw [hz4]; decide) (by omega), ?_⟩
    rw [hz1, size_madeCells]; rfl
  have hz : (w.alloc (Obj.cells Z 5)).heap[w.heap.size]? = some (.cells Z 5 (0, 0)) := at_new _ _
  have hb0 : Below w.heap.size w (w.alloc (Obj.cells Z 5)) := (Below.refl _ _).alloc (Nat.le_refl _) _
  generalize w.alloc (Obj.cells Z 5) = W0 at *
  have HZ := Lib.hid hz
  have HB0 := Lib.hid hb0
  have HZS := Lib.hid hZ
  have HLT := Lib.hid hlt
  clear hz hb0 hZ hlt
  go_enter Tryz.func40, Tryz.ntmps40
  go_wp2
  clear hmk
  go_loopw [0, 6] (fun vu vi wr => ∃ (u m : Nat) (cs : Array Value) (L : Bytes), vu = .int .u64 u ∧ vi = .int .i64 ((m : Int) - 1) ∧ m ≤ 16 ∧ u < 18446744073709551616 ∧ wr.heap[w.heap.size]? = some (.cells cs 5 (0, 0)) ∧ cs.size = 16 ∧ Hid (Below w.heap.size w wr ∧ hexN 16 n = hexN m u ++ L ∧ L.length + m = 16 ∧ cs.toList.drop m = L.map (fun b => Value.int .u8 (b.toNat : Int)))) (fun vu vi _ => (intOf vi + 1).toNat)
  case atStart => exact ⟨n, 16, Z, [], rfl, rfl, by omega, HLT.out, HZ.out, HZS.out, Lib.hid ⟨HB0.out, by simp, rfl, by rw [List.drop_of_length_le (by rw [Array.length_toList, HZS.out]; omega)]; rfl⟩⟩
  case round =>
    obtain ⟨u, m, cs, L, rfl, rfl, hm1, hlt, hcs, hsz, hh⟩ := hrel
    have HC := Lib.hid hcs
    have HS := Lib.hid hsz
    have HL := Lib.hid hlt
    by_cases hm : m = 0
    · subst hm
      have hlist : cs.toList = (hexN 16 n).map (fun b => Value.int .u8 (b.toNat : Int)) := by
        have := hh.out.2.2.2
        rw [hh.out.2.1]; exact this
      have hcv : (convert 59 9 (.slice (some ⟨w.heap.size, 0, none⟩) 16 16)).run Tryz.prog wr = .ok (.string ⟨(hexN 16 n).toArray⟩) wr := by
        have h := run_convert_bytes_back (P := Tryz.prog) wr 59 9 5 ⟨w.heap.size, 0, none⟩ 16 (hexN 16 n) Tryz.underlying59 Tryz.underlying5 Tryz.underlying9 (fun j hj => by
          rw [add_plain, heap_cell HC.out (0 + j)]
          have h1 := congrArg (fun l : List Value => l[j]?) hlist
          simp only [List.getElem?_map, List.getElem?_eq_getElem hj, Option.map_some, Array.getElem?_toList] at h1
          rw [Nat.zero_add]; exact h1)
        rw [hexN_len] at h
        exact h
      clear hcs hsz hlt hlist
      go_wp2
      go_ret
      exact ⟨⟨(hexN 16 n).toArray⟩, by simp, rfl, hh.out.1⟩
    · have i1 : ((m : Int) - 1).toNat = m - 1 := by omega
      have i2 : m - 1 < cs.size := by omega
      have i3 : (0 : Int) ≤ (m : Int) - 1 := by omega
      have i4 : (1 : Int) ≤ m := by omega
      have c1 := heap_cell hcs (m - 1)
      rw [Array.getElem?_eq_getElem i2] at c1
      have c2 := heap_free hcs (m - 1)
      generalize cs[m - 1] = old at c1
      have h15 : bits .and .u64 (u : Int) 15 = ((u % 16 : Nat) : Int) := by
        have := bits_mask .u64 64 (by decide) (fun n h0 h1 => by rw [IntKind.wrap_u64]; omega) 4 (by decide) (u : Int) (by omega) (by omega)
        simp at this
        rw [this]; omega
      have hr : u % 16 < 16 := Nat.mod_lt _ (by decide)
      obtain ⟨q, hq⟩ : ∃ q, u % 16 = q := ⟨_, rfl⟩
      rw [hq] at h15 hr
      have HQ := Lib.hid hq
      have hr3 : (q : Int) < 16 := by omega
      clear hq hcs hsz hlt
      go_wp2
      go_roundw
      case rel =>
        rw [rdigs q hr]
        refine ⟨u / 16, m - 1, _, dig q :: L, by rw [show ((u / 16 : Nat) : Int) = (u : Int) / 16 by omega], ?_, by omega, by have := HL.out; omega, set_same HC.out _, by rw [Array.size_setIfInBounds]; exact HS.out, Lib.hid ⟨hh.out.1.setCell (Nat.le_refl _) _, ?_, ?_, ?_⟩⟩
        · rw [show ((m - 1 : Nat) : Int) = (m : Int) - 1 by omega]
        · rw [hh.out.2.1]
          obtain ⟨m', rfl⟩ : ∃ m', m = m' + 1 := ⟨m - 1, by omega⟩
          rw [hexN, HQ.out, List.append_assoc]; rfl
        · rw [List.length_cons]; have := hh.out.2.2.1; omega
        · exact drop_set (by omega) (by have := HS.out; omega) hh.out.2.2.2
      case measure => simp [intOf]; omega

set_option maxHeartbeats 1000000 in
theorem rfield_any (n : Int) (p : ByteArray) (w : World) (hp : p.size ≤ 2000) :
    Calls Tryz.prog 21 #[.int .i64 n, .string p] w fun e w' => ∃ s : ByteArray, s.data.toList = FS n p ∧ e = .returned (.string s) ∧ Below w.heap.size w w' := by
  obtain ⟨h16, h17⟩ := sl_cast n
  have hw16 : bits .and .i64 n 65535 = (sl n : Int) := by rw [and16, h16]
  have hw64 : IntKind.u64.wrap (sl n : Int) = (sl n : Int) := by rw [IntKind.wrap_u64]; omega
  have hF : FS n p = hexN 4 (sl n) ++ 36 :: hexN 16 (mixS (sl n) p.data.toList) := rfl
  obtain ⟨hm1, hm2⟩ := mix_cast (sl n) p.data.toList
  rw [← h16] at hm1
  have HM := Lib.hid hm1
  have HM2 := Lib.hid hm2
  have HF := Lib.hid hF
  have H16 := Lib.hid h16
  clear hm1 hm2 hF h16
  generalize FS n p = F at *
  generalize mixS (sl n) p.data.toList = M at *
  generalize sl n = S at *
  go_enter Tryz.func21, Tryz.ntmps21
  go_wp2_with fail
  refine (rdigits_4 S (by omega) _).mono ?_
  rintro e w1 ⟨s1, hs1, rfl, hb1⟩
  have hz1 : s1.size = 4 := by have := congrArg List.length hs1; rw [hexN_len] at this; simpa using this
  have HS1 := Lib.hid hs1
  have HB1 := Lib.hid hb1
  clear hs1 hb1
  go_wp2_with fail
  refine (rmix_any n p _ hp).mono ?_
  rintro e w2 ⟨rfl, rfl⟩
  rw [HM.out]
  go_wp2_with fail
  refine (rdigits_16 M (by have := HM2.out; omega) _).mono ?_
  rintro e w3 ⟨s2, hs2, rfl, hb2⟩
  have hz2 : s2.size = 16 := by have := congrArg List.length hs2; rw [hexN_len] at this; simpa using this
  have HS2 := Lib.hid hs2
  have HB2 := Lib.hid (HB1.out.trans (hb2.mono HB1.out.size))
  clear hs2 hb2
  go_wp2
  go_ret
  refine ⟨_, ?_, rfl, HB2.out⟩
  rw [HF.out, ByteArray.data_append, ByteArray.data_append, Array.toList_append, Array.toList_append, HS1.out, HS2.out]
  simp

end Go.Proofs.Mz
/- A field is read: Cut, Trim, ParseUint at base 16. -/
namespace Go.Proofs.Mz
open Go.RowKit

theorem low_bits : ∀ j : Fin 6, bits .or .u8 ((97 + j.val : Nat) : Int) 32 = ((97 + j.val : Nat) : Int) := by decide
theorem low_any (c : Nat) (h : 97 ≤ c) (h2 : c ≤ 102) (w : World) : Calls Tryz.prog 182 #[.int .u8 c] w fun e w' => e = .returned (.int .u8 c) ∧ w' = w := by
  have hb : bits .or .u8 (c : Int) 32 = (c : Int) := by
    have := low_bits ⟨c - 97, by omega⟩
    rw [show 97 + (c - 97) = c by omega] at this
    exact this
  go_enter Tryz.func182, Tryz.ntmps182
  go_wp2
  go_ret
  exact ⟨rfl, rfl⟩

theorem bytes_below (w : World) (t : ByteArray) : Below w.heap.size w (Lib.bytesWorld w 5 t) := by
  exact ⟨rfl, rfl, rfl, by rw [Lib.bytesWorld_size]; omega, fun j hj => Lib.bytesWorld_at_old w 5 t j hj⟩
theorem hex_kind {c : UInt8} (h : isHex c = true) : (48 ≤ c.toNat ∧ c.toNat ≤ 57 ∧ val c = c.toNat - 48) ∨ (97 ≤ c.toNat ∧ c.toNat ≤ 102 ∧ val c = c.toNat - 87) := by
  unfold isHex at h; unfold val
  simp at h
  rcases h with h | h
  · left; rw [if_pos h.2]; omega
  · right; rw [if_neg (by omega)]; omega

set_option maxHeartbeats 2000000 in
set_option maxRecDepth 100000 in
theorem ipu_any (t : ByteArray) (ht : t.size = 4) (hx : t.data.toList.all isHex = true) (w : World) :
    Calls Tryz.prog 152 #[.string t, .int .i64 16, .int .i64 16] w fun e w' => e = .returned (.tuple #[.int .u64 (readN t.data.toList), .nilIface]) ∧ Below w.heap.size w w' := by
  have hemp : t.toList.isEmpty = false := by
    rw [← decide_eq_emptyBytes]
    exact decide_eq_false (fun h => by rw [h] at ht; cases ht)
  have hcv := Lib.run_convert_string_bytes (P := Tryz.prog) w 9 59 5 t (u := .string) Tryz.underlying9 Tryz.underlying59 Tryz.underlying5
  have hB : ∀ j, j < t.size → (Lib.bytesWorld w 5 t).cell? ⟨w.heap.size, j, none⟩ = some (.int .u8 (t.data.toList.getD j 0).toNat) := fun j hj => Lib.bytesWorld_cell w 5 t j hj
  have hbel : Below w.heap.size w (Lib.bytesWorld w 5 t) := bytes_below w t
  have hmv : IntKind.u64.wrap (IntKind.u64.wrap 65536 - 1) = 65535 := by
    rw [IntKind.wrap_u64, IntKind.wrap_u64]
    decide
  obtain ⟨W1, hW1⟩ : ∃ W1, W1 = Lib.bytesWorld w 5 t := ⟨_, rfl⟩
  rw [← hW1] at hcv hB hbel
  clear hW1
  obtain ⟨bs, hL⟩ : ∃ bs, bs = t.data.toList := ⟨_, rfl⟩
  have hLn : bs.length = 4 := by rw [hL, ← ht]; simp
  rw [← hL] at hB hx
  rw [← hL]
  clear hL
  have HB := Lib.hid hB
  have HX := Lib.hid hx
  have HBEL := Lib.hid hbel
  clear hB hx hbel
  rw [ht] at hcv
  have HT := Lib.hid ht
  have HLN := Lib.hid hLn
  clear ht hLn
  go_enter Tryz.func152, Tryz.ntmps152
  go_wp2
  go_loopw [12, 13, 15, 16, 17, 101] (fun vu vn vc vd v1 vi wr => ∃ (k acc : Nat) (a : Int), vu = .bool false ∧ vn = .int .u64 a ∧ vi = .int .i64 k ∧ k ≤ 4 ∧ wr = W1 ∧ Hid (a = (acc : Int) ∧ acc = readN (bs.take k) ∧ acc < 16 ^ k)) (fun vu vn vc vd v1 vi _ => 4 - (intOf vi).toNat)
  case atStart => exact ⟨0, 0, 0, rfl, rfl, rfl, by omega, rfl, Lib.hid ⟨rfl, rfl, by decide⟩⟩
  case round =>
    obtain ⟨k, acc, a, rfl, rfl, rfl, hk, rfl, HA⟩ := hrel
    by_cases hkn : k < 4
    · have hk1 : (k : Int) < 4 := by omega
      have hc := HB.out k (by rw [HT.out]; exact hkn)
      have hlk : k < bs.length := by rw [HLN.out]; exact hkn
      have hget : bs.getD k 0 = bs[k]'hlk := by simp [List.getD, List.getElem?_eq_getElem hlk]
      rw [hget] at hc
      have htk : bs.take (k + 1) = bs.take k ++ [bs[k]'hlk] := by rw [List.take_succ_eq_append_getElem hlk]
      have hhx : isHex (bs[k]'hlk) = true := List.all_eq_true.1 HX.out _ (List.getElem_mem _)
      generalize bs[k]'hlk = c at hc htk hhx
      have hval := val_lt hhx
      have hacc3 : acc < 4096 := by
        have h16 : 16 ^ k ≤ 16 ^ 3 := Nat.pow_le_pow_right (by decide) (by omega)
        have := HA.out.2.2
        omega
      have hnext : acc * 16 + val c = readN (bs.take (k + 1)) := by rw [htk, readN_app, ← HA.out.2.1]; omega
      have hpow : acc * 16 + val c < 16 ^ (k + 1) := by have := HA.out.2.2; rw [Nat.pow_succ]; omega
      have a0 : 0 ≤ a := by rw [HA.out.1]; omega
      have a1 : a ≤ 4095 := by rw [HA.out.1]; omega
      rcases hex_kind hhx with ⟨h1, h2, h3⟩ | ⟨h1, h2, h3⟩
      · have d1 : (48 : Int) ≤ c.toNat := by omega
        have d2 : (c.toNat : Int) ≤ 57 := by omega
        have HN : Hid (a * 16 + ((c.toNat : Int) - 48) = ((acc * 16 + val c : Nat) : Int) ∧ acc * 16 + val c = readN (bs.take (k + 1)) ∧ acc * 16 + val c < 16 ^ (k + 1)) := Lib.hid ⟨by rw [HA.out.1]; omega, hnext, hpow⟩
        clear hhx h1 h2 h3 hval hacc3 hnext hpow htk hget hlk
        go_wp2
        go_roundw
        case rel => exact ⟨k + 1, _, _, rfl, rfl, by go_num, by omega, trivial, HN⟩
        case measure => simp [intOf]; omega
      · have d1 : (97 : Int) ≤ c.toNat := by omega
        have d2 : (c.toNat : Int) ≤ 102 := by omega
        have HN : Hid (a * 16 + ((c.toNat : Int) - 97 + 10) = ((acc * 16 + val c : Nat) : Int) ∧ acc * 16 + val c = readN (bs.take (k + 1)) ∧ acc * 16 + val c < 16 ^ (k + 1)) := Lib.hid ⟨by rw [HA.out.1]; omega, hnext, hpow⟩
        have HL1 := Lib.hid h1
        have HL2 := Lib.hid h2
        clear hhx h1 h2 h3 hval hacc3 hnext hpow htk hget hlk
        go_wp2_with (go_at_call 182; refine (low_any _ HL1.out HL2.out _).mono ?_; rintro e w' ⟨rfl, rfl⟩)
        go_roundw
        case rel => exact ⟨k + 1, _, _, rfl, rfl, by go_num, by omega, trivial, HN⟩
        case measure => simp [intOf]; omega
    · have hk1 : ¬ (k : Int) < 4 := by omega
      have HF : Hid (a = readN bs) := Lib.hid (by rw [HA.out.1, HA.out.2.1, List.take_of_length_le (by rw [HLN.out]; omega)])
      clear hk hkn
      go_wp2
      exact bodyPost_ret (v := .tuple #[.int .u64 a, .nilIface]) (by simp [results, Tryz.results152, go_sem]) rfl ⟨by rw [HF.out], HBEL.out⟩
end Go.Proofs.Mz
/- A field is read. -/
namespace Go.Proofs.Mz
open Go.RowKit

theorem pu_any (t : ByteArray) (ht : t.size = 4) (hx : t.data.toList.all isHex = true) (w : World) :
    Calls Tryz.prog 109 #[.string t, .int .i64 16, .int .i64 16] w fun e w' => e = .returned (.tuple #[.int .u64 (readN t.data.toList), .nilIface]) ∧ Below w.heap.size w w' := by
  have hc := ipu_any t ht hx
  clear hx ht
  generalize readN t.data.toList = R at *
  go_enter Tryz.func109, Tryz.ntmps109
  go_wp2_with fail
  refine (hc _).mono ?_
  rintro e w' ⟨rfl, hb⟩
  have HB := Lib.hid hb
  clear hb hc
  go_wp2
  exact bodyPost_ret (v := .tuple #[.int .u64 R, .nilIface]) (by simp [results, Tryz.results109, go_sem]) rfl ⟨rfl, HB.out⟩

def CutPost (s : ByteArray) (w : World) (e : Ending) (w' : World) : Prop :=
  ∃ (a b : ByteArray) (ok : Bool), e = .returned (.tuple #[.string a, .string b, .bool ok]) ∧ (∃ k, w' = w.drewN k) ∧ a.size ≤ s.size ∧ b.size ≤ s.size ∧
    ((ok = true ∧ s.data.toList = a.data.toList ++ 36 :: b.data.toList ∧ (36 : UInt8) ∉ a.data.toList) ∨ (ok = false ∧ (36 : UInt8) ∉ s.data.toList))

theorem idx_cases : ∀ (l : Bytes) (c : UInt8), Lib.indexByte l c = -1 ∨ ∃ i : Nat, Lib.indexByte l c = i
  | [], _ => .inl rfl
  | b :: l, c => by
    unfold Lib.indexByte
    split
    · exact .inr ⟨0, rfl⟩
    · split
      · exact .inl rfl
      · rcases idx_cases l c with h | ⟨i, h⟩
        · rename_i h2; rw [h] at h2; exact absurd rfl h2
        · exact .inr ⟨i + 1, by rw [h]; rfl⟩
theorem at36 {l : Bytes} {i : Nat} (h : Lib.indexByte l 36 = i) : i < l.length ∧ (36 : UInt8) ∉ l.take i ∧ l = l.take i ++ 36 :: l.drop (i + 1) := by
  obtain ⟨h1, h2⟩ := Lib.indexByte_some h
  obtain ⟨hi, h3⟩ := List.getElem?_eq_some_iff.1 h1
  refine ⟨hi, fun hm => ?_, ?_⟩
  · obtain ⟨k, hk, he⟩ := List.getElem_of_mem hm
    rw [List.getElem_take] at he
    have hk' : k < i := by simp at hk; omega
    exact h2 k hk' (by rw [List.getElem?_eq_getElem (by omega), he])
  · conv => lhs; rw [← List.take_append_drop i l]
    rw [List.drop_eq_getElem_cons hi, h3]
theorem no36 {l : Bytes} (h : Lib.indexByte l 36 = -1) : (36 : UInt8) ∉ l := fun hm => by
  obtain ⟨k, hk, he⟩ := List.getElem_of_mem hm
  exact Lib.indexByte_none h k (by rw [List.getElem?_eq_getElem hk, he])
theorem ex_data (s : ByteArray) (a b : Nat) : (s.extract a b).data.toList = (s.data.toList.take b).drop a := by
  rw [ByteArray.data_extract, Array.toList_extract, List.extract_eq_take_drop, List.drop_take]
theorem sz (s : ByteArray) : s.data.toList.length = s.size := by simp

set_option maxHeartbeats 1000000 in
theorem icut_any (s : ByteArray) (w : World) (hs : s.size ≤ 140737488351232) : Calls Tryz.prog 192 #[.string s, .string ⟨#[36]⟩] w (CutPost s w) := by
  have hs1 : (s.size : Int) ≤ 140737488351232 := by omega
  go_enter Tryz.func192, Tryz.ntmps192
  go_wp2_with fail
  refine (Tryz.stringslite_Index_one s 36 _).mono ?_
  rintro e w' ⟨rfl, rfl⟩
  rcases idx_cases s.data.toList 36 with hi | ⟨i, hi⟩
  · have HI := Lib.hid (no36 hi)
    rw [hi]
    clear hi
    go_wp2
    exact bodyPost_ret (v := .tuple #[.string s, .string ⟨#[]⟩, .bool false]) (by simp [results, Tryz.results192, go_sem]) rfl ⟨s, ⟨#[]⟩, false, rfl, ⟨0, rfl⟩, Nat.le_refl _, Nat.zero_le _, .inr ⟨rfl, HI.out⟩⟩
  · obtain ⟨h1, h2, h3⟩ := at36 hi
    rw [sz] at h1
    have h1i : (i : Int) + 1 ≤ s.size := by omega
    have h1j : (i : Int) ≤ s.size := by omega
    have h1k : (0 : Int) ≤ (i : Int) + 1 := by omega
    have h1l : ((i : Int) + 1).toNat = i + 1 := by omega
    have H2 := Lib.hid h2
    have H3 := Lib.hid h3
    rw [hi]
    clear hi h2 h3
    go_wp2_with fail
    go_region
    go_wp2
    exact bodyPost_ret (v := .tuple #[.string (s.extract 0 i), .string (s.extract (i + 1) s.size), .bool true]) (by simp [results, Tryz.results192, go_sem]) rfl
      ⟨_, _, true, rfl, ⟨1, rfl⟩, by rw [ByteArray.size_extract]; exact Nat.le_trans (Nat.sub_le _ _) (Nat.min_le_right _ _), by rw [ByteArray.size_extract]; exact Nat.le_trans (Nat.sub_le _ _) (Nat.min_le_right _ _), .inl ⟨rfl, by
        rw [ex_data, ex_data, List.drop_zero, show s.data.toList.take s.size = s.data.toList from List.take_of_length_le (by rw [sz]; exact Nat.le_refl _)]; exact H3.out, by rw [ex_data, List.drop_zero]; exact H2.out⟩⟩

theorem cut_any (s : ByteArray) (w : World) (hs : s.size ≤ 140737488351232) : Calls Tryz.prog 167 #[.string s, .string ⟨#[36]⟩] w (CutPost s w) := by
  go_enter Tryz.func167, Tryz.ntmps167
  go_wp2_with fail
  refine (icut_any s _ hs).mono ?_
  rintro e w' ⟨a, b, ok, rfl, ⟨k, rfl⟩, h1, h2, h3⟩
  have H3 := Lib.hid h3
  clear h3
  go_wp2
  exact bodyPost_ret (v := .tuple #[.string a, .string b, .bool ok]) (by simp [results, Tryz.results167, go_sem]) rfl ⟨a, b, ok, rfl, ⟨_, rfl⟩, h1, h2, H3.out⟩

def hexset : Bytes := [48, 49, 50, 51, 52, 53, 54, 55, 56, 57, 97, 98, 99, 100, 101, 102]
theorem hexset0 : ∀ j : Fin 256, hexset.contains (UInt8.ofNat j.val) = isHex (UInt8.ofNat j.val) := by decide +kernel
theorem hexset_is (c : UInt8) : hexset.contains c = isHex c := by
  have := hexset0 ⟨c.toNat, c.toNat_lt⟩
  simpa using this
theorem drop_all {p : UInt8 → Bool} {l : Bytes} (h : ∀ x ∈ l.dropWhile p, p x = true) : ∀ x ∈ l, p x = true := by
  induction l with
  | nil => intro x hx; cases hx
  | cons a l ih =>
    intro x hx
    by_cases ha : p a = true
    · rw [List.dropWhile_cons_of_pos ha] at h
      rcases List.mem_cons.1 hx with rfl | hx
      · exact ha
      · exact ih h x hx
    · rw [List.dropWhile_cons_of_neg ha] at h
      exact absurd (h a (by simp)) ha
theorem dw_nil {p : UInt8 → Bool} : ∀ {l : Bytes}, l.dropWhile p = [] ↔ ∀ x ∈ l, p x = true
  | [] => by simp
  | a :: l => by
    by_cases ha : p a = true
    · rw [List.dropWhile_cons_of_pos ha, dw_nil]; simp [ha]
    · rw [List.dropWhile_cons_of_neg ha]; simp [ha]
theorem trim_nil (l : Bytes) : Lib.trimS l hexset = [] ↔ l.all isHex = true := by
  unfold Lib.trimS Lib.trimLeftS Lib.trimRightS
  have hp : (fun x => hexset.contains x) = isHex := funext hexset_is
  show List.dropWhile (fun x => hexset.contains x) (List.dropWhile (fun x => hexset.contains x) l.reverse).reverse = [] ↔ _
  rw [hp, dw_nil, List.all_eq_true]
  constructor
  · intro h x hx
    have h2 : ∀ x ∈ l.reverse.dropWhile isHex, isHex x = true := fun x hx => h x (List.mem_reverse.2 hx)
    exact drop_all h2 x (List.mem_reverse.2 hx)
  · intro h x hx
    exact h x (List.mem_reverse.1 ((List.dropWhile_sublist isHex).subset (List.mem_reverse.1 hx)))
theorem trim_any (s : ByteArray) (w : World) (hs : s.size ≤ 1000000000000000000) :
    Calls Tryz.prog 180 #[.string s, .string ⟨#[48, 49, 50, 51, 52, 53, 54, 55, 56, 57, 97, 98, 99, 100, 101, 102]⟩] w fun e w' => ∃ t : ByteArray, e = .returned (.string t) ∧ (t = ⟨#[]⟩ ↔ s.data.toList.all isHex = true) ∧ Below w.heap.size w w' := by
  refine (Any.strings_Trim_laid Tryz.lays160 (by kernel_rfl) s ⟨#[48, 49, 50, 51, 52, 53, 54, 55, 56, 57, 97, 98, 99, 100, 101, 102]⟩ w (by omega) (by decide) (ascii_of_all (by decide))).mono ?_
  rintro e w' ⟨rfl, hb⟩
  refine ⟨_, rfl, ?_, hb⟩
  rw [← trim_nil]
  constructor
  · intro h
    have := congrArg (fun b : ByteArray => b.data.toList) h
    simp at this
    exact this
  · intro h
    show (⟨(Lib.trimS s.data.toList hexset).toArray⟩ : ByteArray) = _
    rw [h]

theorem split_uniq : ∀ {a h b t : Bytes}, a ++ 36 :: b = h ++ 36 :: t → (36 : UInt8) ∉ a → (36 : UInt8) ∉ h → a = h ∧ b = t
  | [], [], b, t, e, _, _ => by simpa using e
  | [], x :: h, b, t, e, _, hh => by
    simp only [List.nil_append, List.cons_append, List.cons.injEq] at e
    exact absurd (by rw [← e.1]; simp) hh
  | y :: a, [], b, t, e, ha, _ => by
    simp only [List.nil_append, List.cons_append, List.cons.injEq] at e
    exact absurd (by rw [e.1]; simp) ha
  | y :: a, x :: h, b, t, e, ha, hh => by
    simp only [List.cons_append, List.cons.injEq] at e
    obtain ⟨h1, h2⟩ := split_uniq e.2 (fun hm => ha (by simp [hm])) (fun hm => hh (by simp [hm]))
    exact ⟨by rw [e.1, h1], h2⟩
theorem hex_no36 {l : Bytes} (h : l.all isHex = true) : (36 : UInt8) ∉ l := fun hm => by
  have := List.all_eq_true.1 h _ hm
  rw [not_hex_dollar] at this; cases this
theorem field_iff {f a b : Bytes} (h : f = a ++ 36 :: b) (ha : (36 : UInt8) ∉ a) : isField f ↔ a.length = 4 ∧ b.length = 16 ∧ (a ++ b).all isHex = true := by
  constructor
  · rintro ⟨x, y, he, h1, h2, h3, h4⟩
    obtain ⟨rfl, rfl⟩ := split_uniq (h.symm.trans he) ha (hex_no36 h3)
    exact ⟨h1, h2, by rw [List.all_append, h3, h4]; rfl⟩
  · rintro ⟨h1, h2, h3⟩
    rw [List.all_append, Bool.and_eq_true] at h3
    exact ⟨a, b, h, h1, h2, h3.1, h3.2⟩
theorem belowN {n : Nat} {w W : World} (h : Below n w W) (k : Nat) : Below n w (W.drewN k) := h.trans ⟨rfl, rfl, rfl, Nat.le_refl _, fun _ _ => rfl⟩
/-- What a field tells: its salt, if it is one. -/
def ReadPost (f : ByteArray) (w : World) (e : Ending) (w' : World) : Prop :=
  ∃ (n : Nat) (ok : Bool), e = .returned (.tuple #[.int .i64 n, .bool ok]) ∧ Below w.heap.size w w' ∧ (ok = true ↔ isField f.data.toList) ∧ (ok = true → n = readN (f.data.toList.take 4) ∧ n < 65536)

set_option maxHeartbeats 1000000 in
theorem read_any (f : ByteArray) (w : World) (hf : f.size ≤ 140737488351232) : Calls Tryz.prog 150 #[.string f] w (ReadPost f w) := by
  go_enter Tryz.func150, Tryz.ntmps150
  go_wp2_with fail
  refine (cut_any f _ hf).mono ?_
  rintro e w' ⟨a, b, ok, rfl, ⟨k, rfl⟩, h1, h2, h3⟩
  have H3 := Lib.hid h3
  clear h3
  have fin : ∀ (T : Array Value) (W : World), T[2]? = some (.int .i64 0) → T[3]? = some (.bool false) → Below w.heap.size w W → ¬ isField f.data.toList →
      bodyPost Tryz.prog Tryz.f150 (ReadPost f w) Exit.ret { tmps := T, defers := [] } W := fun T W h2 h3 hb hn =>
    bodyPost_ret (v := .tuple #[.int .i64 0, .bool false]) (by simp [results, Tryz.results150, go_sem, h2, h3]) rfl ⟨0, false, rfl, hb, ⟨fun h => Bool.noConfusion h, fun h => absurd h hn⟩, fun h => Bool.noConfusion h⟩
  have FIN := Lib.hid fin
  clear fin
  cases ok with
  | false =>
    go_wp2
    refine FIN.out _ _ rfl rfl (belowN (Below.refl _ _) k) ?_
    rcases H3.out with ⟨h, _⟩ | ⟨_, h⟩
    · cases h
    · rintro ⟨x, y, he, -⟩
      rw [he] at h
      exact h (by simp)
  | true =>
    have hsp : f.data.toList = a.data.toList ++ 36 :: b.data.toList ∧ (36 : UInt8) ∉ a.data.toList := by
      rcases H3.out with ⟨_, h⟩ | ⟨h, _⟩
      · exact h
      · cases h
    have HI := Lib.hid (field_iff hsp.1 hsp.2)
    have HSP := Lib.hid hsp
    clear hsp H3
    by_cases ha : a.size = 4
    · by_cases hb : b.size = 16
      · go_wp2_with fail
        refine (trim_any (a ++ b) _ (by rw [ByteArray.size_append]; omega)).mono ?_
        rintro e w2 ⟨t, rfl, ht, hb2⟩
        have HB2 := Lib.hid ((belowN (Below.refl w.heap.size w) k).trans (hb2.mono (Nat.le_refl _)))
        rw [ByteArray.data_append, Array.toList_append] at ht
        have HT := Lib.hid ht
        clear ht hb2
        by_cases hx : (a.data.toList ++ b.data.toList).all isHex = true
        · have htt : t.toList.isEmpty = true := by
            rw [← decide_eq_emptyBytes]
            exact decide_eq_true (HT.out.2 hx)
          have hfield : isField f.data.toList := HI.out.2 ⟨by rw [sz]; exact ha, by rw [sz]; exact hb, hx⟩
          have hxa : a.data.toList.all isHex = true := by rw [List.all_append, Bool.and_eq_true] at hx; exact hx.1
          have hta : f.data.toList.take 4 = a.data.toList := by rw [HSP.out.1, List.take_append_of_le_length (by rw [sz, ha]; omega), List.take_of_length_le (by rw [sz, ha]; omega)]
          have hlt : readN a.data.toList < 65536 := by
            have := readN_lt _ hxa
            rw [sz, ha] at this
            exact this
          have hpu := pu_any a ha hxa
          have HFI := Lib.hid hfield
          have HTA : Hid (readN a.data.toList = readN (f.data.toList.take 4)) := Lib.hid (by rw [hta])
          clear hx hfield hxa hta
          generalize readN a.data.toList = R at *
          have hr1 : (R : Int) ≤ 65535 := by omega
          go_wp2_with fail
          refine (hpu _).mono ?_
          rintro e w3 ⟨rfl, hb3⟩
          have HB3 := Lib.hid (HB2.out.trans (hb3.mono HB2.out.size))
          clear hb3 hpu
          go_wp2_with fail
          go_region
          go_wp2
          exact bodyPost_ret (v := .tuple #[.int .i64 R, .bool true]) (by simp [results, Tryz.results150, go_sem]) rfl ⟨R, true, rfl, belowN HB3.out 1, ⟨fun _ => HFI.out, fun _ => rfl⟩, fun _ => ⟨HTA.out, by omega⟩⟩
        · have htt : t.toList.isEmpty = false := by
            rw [← decide_eq_emptyBytes]
            exact decide_eq_false fun h => hx (HT.out.1 h)
          have HX := Lib.hid hx
          clear hx
          go_wp2
          exact FIN.out _ _ rfl rfl HB2.out (fun h => HX.out (HI.out.1 h).2.2)
      · have hb1 : ¬ (b.size : Int) = 16 := by omega
        have HB := Lib.hid hb
        clear hb
        go_wp2
        exact FIN.out _ _ rfl rfl (belowN (Below.refl _ _) k) (fun h => HB.out (by rw [← sz]; exact (HI.out.1 h).2.1))
    · have ha1 : ¬ (a.size : Int) = 4 := by omega
      have HA := Lib.hid ha
      clear ha
      go_wp2
      exact FIN.out _ _ rfl rfl (belowN (Below.refl _ _) k) (fun h => HA.out (by rw [← sz]; exact (HI.out.1 h).1))
end Go.Proofs.Mz
/- Right and Matches, by the program and by the document. -/
namespace Go.Proofs.Mz
open Go.RowKit

def RightP (f : ByteArray) : Prop := f.data.toList = [] ∨ f.data.toList = [42] ∨ isField f.data.toList
def MatchP (f p : ByteArray) : Prop := (f.data.toList = [] ∧ p.data.toList = []) ∨ (isField f.data.toList ∧ FS (readN (f.data.toList.take 4) : Nat) p = f.data.toList)
theorem data_eq {s t : ByteArray} : s = t ↔ s.data.toList = t.data.toList := ⟨fun h => by rw [h], fun h => by apply ByteArray.ext; apply Array.ext'; exact h⟩
theorem toList_data (s : ByteArray) : s.toList = s.data.toList := Lib.toList_data s
theorem emp_iff (s : ByteArray) : s.toList.isEmpty = true ↔ s.data.toList = [] := by rw [toList_data, List.isEmpty_iff]

theorem emp_no {s : ByteArray} (h : ¬ s.data.toList = []) : s.toList.isEmpty = false := by
  cases hh : s.toList.isEmpty with
  | false => rfl
  | true => exact absurd ((emp_iff s).1 hh) h
set_option maxHeartbeats 1000000 in
theorem right_any (f : ByteArray) (w : World) (hf : f.size ≤ 140737488351232) :
    Calls Tryz.prog 221 #[.string f] w fun e w' => ∃ r : Bool, e = .returned (.bool r) ∧ (r = true ↔ RightP f) ∧ Below w.heap.size w w' := by
  go_enter Tryz.func221, Tryz.ntmps221
  go_wp2_with fail
  refine (read_any f _ hf).mono ?_
  rintro e w' ⟨n, ok, rfl, hb, hok, hn⟩
  have HOK := Lib.hid hok
  have HB := Lib.hid hb
  clear hok hb hn
  cases ok with
  | true =>
    go_wp2
    go_ret
    exact ⟨true, rfl, ⟨fun _ => .inr (.inr (HOK.out.1 (by simp))), fun _ => rfl⟩, HB.out⟩
  | false =>
    by_cases h0 : f.data.toList = []
    · have h1 := (emp_iff f).2 h0
      have H0 := Lib.hid h0
      clear h0
      go_wp2
      go_ret
      exact ⟨true, rfl, ⟨fun _ => .inl H0.out, fun _ => rfl⟩, HB.out⟩
    · have h1 : f.toList.isEmpty = false := by
        cases hh : f.toList.isEmpty with
        | false => rfl
        | true => exact absurd ((emp_iff f).1 hh) h0
      have H0 := Lib.hid h0
      clear h0
      go_wp2
      go_ret
      refine ⟨_, rfl, ?_, HB.out⟩
      rw [toList_data, beq_iff_eq]
      constructor
      · exact fun h => .inr (.inl h)
      · rintro (h | h | h)
        · exact absurd h H0.out
        · exact h
        · exact absurd (HOK.out.2 h) (by simp)

set_option maxHeartbeats 1000000 in
theorem matches_any (f p : ByteArray) (w : World) (hf : f.size ≤ 140737488351232) (hp : p.size ≤ 2000) (hT : HasT w) :
    Calls Tryz.prog 100 #[.string f, .string p] w fun e w' => ∃ r : Bool, e = .returned (.bool r) ∧ (r = true ↔ MatchP f p) ∧ Below w.heap.size w w' := by
  go_enter Tryz.func100, Tryz.ntmps100
  go_wp2_with fail
  refine (read_any f _ hf).mono ?_
  rintro e w' ⟨n, ok, rfl, hb, hok, hn⟩
  have HOK := Lib.hid hok
  have HB := Lib.hid hb
  have HN := Lib.hid hn
  clear hok hb hn
  cases ok with
  | false =>
    have hno : ¬ isField f.data.toList := fun h => absurd (HOK.out.2 h) (by simp)
    have HNO := Lib.hid hno
    clear hno
    by_cases h0 : f.data.toList = []
    · have h1 := (emp_iff f).2 h0
      have H0 := Lib.hid h0
      clear h0
      by_cases hp0 : p.data.toList = []
      · have hp1 := (emp_iff p).2 hp0
        have HP0 := Lib.hid hp0
        clear hp0
        go_wp2
        go_ret
        exact ⟨true, rfl, ⟨fun _ => .inl ⟨H0.out, HP0.out⟩, fun _ => rfl⟩, HB.out⟩
      · have hp1 : p.toList.isEmpty = false := emp_no hp0
        have HP0 := Lib.hid hp0
        clear hp0
        go_wp2
        go_ret
        exact ⟨false, rfl, ⟨fun h => Bool.noConfusion h, fun h => by
          rcases h with ⟨_, h⟩ | ⟨h, _⟩
          · exact absurd h HP0.out
          · exact absurd h HNO.out⟩, HB.out⟩
    · have h1 : f.toList.isEmpty = false := emp_no h0
      have H0 := Lib.hid h0
      clear h0
      go_wp2
      go_ret
      exact ⟨false, rfl, ⟨fun h => Bool.noConfusion h, fun h => by
          rcases h with ⟨h, _⟩ | ⟨h, _⟩
          · exact absurd h H0.out
          · exact absurd h HNO.out⟩, HB.out⟩
  | true =>
    by_cases h0 : f.data.toList = []
    · exact absurd (HOK.out.1 rfl) (by rw [h0]; rintro ⟨x, y, he, -⟩; simp at he)
    · have h1 : f.toList.isEmpty = false := emp_no h0
      have H0 := Lib.hid h0
      have HF := Lib.hid (HOK.out.1 rfl)
      obtain rfl : n = readN (f.data.toList.take 4) := (HN.out rfl).1
      clear h0 HN HOK
      generalize hR : readN (f.data.toList.take 4) = R at *
      go_wp2_with (go_at_call 144; refine (field_any _ p _ hp (hT.below HB.out)).mono ?_; rintro e w2 ⟨s, hs, rfl, hb2⟩)
      go_ret
      refine ⟨_, rfl, ?_, HB.out.trans (hb2.mono HB.out.size)⟩
      rw [toList_data, toList_data, beq_iff_eq, hs]
      constructor
      · exact fun h => .inr ⟨HF.out, by rw [hR]; exact h⟩
      · rintro (⟨h, _⟩ | ⟨_, h⟩)
        · exact absurd h H0.out
        · rw [hR] at h; exact h

theorem rdigit_any (c : UInt8) (w : World) : Calls Tryz.prog 39 #[.int .u8 (c.toNat : Int)] w fun e w' => e = .returned (.int .i64 (if isHex c then (val c : Int) else -1)) ∧ w' = w := by
  by_cases hx : isHex c = true
  · rw [if_pos hx]
    rcases hex_kind hx with ⟨h1, h2, h3⟩ | ⟨h1, h2, h3⟩
    · have d1 : (48 : Int) ≤ c.toNat := by omega
      have d2 : (c.toNat : Int) ≤ 57 := by omega
      have h4 : (val c : Int) = (c.toNat : Int) - 48 := by omega
      rw [h4]
      clear hx h1 h2 h3 h4
      go_enter Tryz.func39, Tryz.ntmps39
      go_wp2
      go_ret
      exact ⟨rfl, rfl⟩
    · have d1 : (97 : Int) ≤ c.toNat := by omega
      have d2 : (c.toNat : Int) ≤ 102 := by omega
      have h4 : (val c : Int) = (c.toNat : Int) - 97 + 10 := by omega
      rw [h4]
      clear hx h1 h2 h3 h4
      go_enter Tryz.func39, Tryz.ntmps39
      go_wp2
      go_ret
      exact ⟨rfl, rfl⟩
  · rw [if_neg hx]
    have hx2 := hx
    unfold isHex at hx2
    simp at hx2
    by_cases h1 : c.toNat < 48
    · have d1 : (c.toNat : Int) < 48 := by omega
      clear hx hx2 h1
      go_enter Tryz.func39, Tryz.ntmps39
      go_wp2
      go_ret
      exact ⟨rfl, rfl⟩
    · by_cases h2 : c.toNat < 97
      · have d1 : (57 : Int) < c.toNat := by have := hx2.1 (by omega); omega
        have d2 : (c.toNat : Int) < 97 := by omega
        clear hx hx2 h1 h2
        go_enter Tryz.func39, Tryz.ntmps39
        go_wp2
        go_ret
        exact ⟨rfl, rfl⟩
      · have d1 : (102 : Int) < c.toNat := by have := hx2.2 (by omega); omega
        clear hx hx2 h1 h2
        go_enter Tryz.func39, Tryz.ntmps39
        go_wp2
        go_ret
        exact ⟨rfl, rfl⟩

theorem isField_iff (l : Bytes) : isField l ↔ l.length = 21 ∧ l[4]? = some 36 ∧ ∀ i c, i < 21 → i ≠ 4 → l[i]? = some c → isHex c = true := by
  constructor
  · rintro ⟨h, t, rfl, h1, h2, h3, h4⟩
    refine ⟨by simp [h1, h2], by rw [List.getElem?_append_right (by omega), h1]; rfl, fun i c hi hn hc => ?_⟩
    by_cases hlt : i < 4
    · rw [List.getElem?_append_left (by omega)] at hc
      exact List.all_eq_true.1 h3 _ (List.mem_of_getElem? hc)
    · rw [List.getElem?_append_right (by omega), h1] at hc
      obtain ⟨m, rfl⟩ : ∃ m, i = m + 5 := ⟨i - 5, by omega⟩
      rw [show m + 5 - 4 = m + 1 by omega, List.getElem?_cons_succ] at hc
      exact List.all_eq_true.1 h4 _ (List.mem_of_getElem? hc)
  · rintro ⟨h1, h2, h3⟩
    have h4 : 4 < l.length := by omega
    have he : l = l.take 4 ++ l[4] :: l.drop 5 := by
      conv => lhs; rw [← List.take_append_drop 4 l]
      rw [List.drop_eq_getElem_cons h4]
    have h5 : l[4] = 36 := by rw [List.getElem?_eq_getElem h4] at h2; exact Option.some.inj h2
    rw [h5] at he
    refine ⟨l.take 4, l.drop 5, he, by rw [List.length_take]; omega, by rw [List.length_drop]; omega, ?_, ?_⟩
    · refine List.all_eq_true.2 fun x hx => ?_
      obtain ⟨i, hi, hg⟩ := List.getElem_of_mem hx
      rw [List.getElem_take] at hg
      have hi4 : i < 4 := by rw [List.length_take] at hi; omega
      exact h3 i x (by omega) (by omega) (by rw [List.getElem?_eq_getElem (by omega), hg])
    · refine List.all_eq_true.2 fun x hx => ?_
      obtain ⟨i, hi, hg⟩ := List.getElem_of_mem hx
      rw [List.getElem_drop] at hg
      have hi4 : i < 16 := by rw [List.length_drop] at hi; omega
      exact h3 (5 + i) x (by omega) (by omega) (by rw [List.getElem?_eq_getElem (by omega), hg])
theorem get_data (s : ByteArray) (i : Nat) (h : i < s.size) : s.data.toList[i]? = some s[i] := by
  rw [List.getElem?_eq_getElem (by rw [sz]; exact h)]; rfl

def IsPost (f : ByteArray) (w : World) (e : Ending) (w' : World) : Prop := ∃ r : Bool, e = .returned (.bool r) ∧ (r = true ↔ isField f.data.toList) ∧ w' = w
set_option maxHeartbeats 1000000 in
theorem ris_any (f : ByteArray) (w : World) (hf : f.size ≤ 140737488351232) :
    Calls Tryz.prog 38 #[.string f] w (IsPost f w) := by
  have hI := Lib.hid (isField_iff f.data.toList)
  by_cases hl : f.size = 21
  · have h4 : (4 : Int) < f.size := by omega
    have h4n : 4 < f.size := by omega
    have HL := Lib.hid hl
    have H4 := Lib.hid (get_data f 4 h4n)
    have hz : (f.size : Int) = 21 := by omega
    clear hl
    by_cases hc : f[4] = 36
    · have hc1 : (f[4].toNat : Int) = 36 := by rw [hc]; rfl
      have HC := Lib.hid hc
      clear hc
      go_enter Tryz.func38, Tryz.ntmps38
      go_wp2
      go_loopw [3] (fun i wr => ∃ k : Nat, k ≤ 21 ∧ i = .int .i64 k ∧ wr = w ∧ Hid (∀ j c, j < k → j ≠ 4 → f.data.toList[j]? = some c → isHex c = true)) (fun i _ => 21 - (intOf i).toNat)
      case atStart => exact ⟨0, by omega, rfl, rfl, Lib.hid fun j c h => by omega⟩
      case round =>
        obtain ⟨k, hk, rfl, rfl, HK⟩ := hrel
        by_cases hlt : k < 21
        · have hlt1 : (k : Int) < 21 := by omega
          have hks : k < f.size := by have := HL.out; omega
          have hks1 : (k : Int) < f.size := by omega
          by_cases hk4 : k = 4
          · have hk41 : (k : Int) = 4 := by omega
            have HK4 := Lib.hid hk4
            clear hk4
            go_wp2
            go_roundw
            case rel => exact ⟨5, by omega, rfl, trivial, Lib.hid fun j c hj hn hc => HK.out j c (by have := HK4.out; omega) hn hc⟩
            case measure => have := HK4.out; simp [intOf]; omega
          · have hk41 : ¬ (k : Int) = 4 := by omega
            have HK4 := Lib.hid hk4
            clear hk4
            have HG := Lib.hid (get_data f k hks)
            by_cases hx : isHex f[k] = true
            · have hv : ¬ ((val f[k] : Nat) : Int) < 0 := by omega
              go_wp2_with (go_at_call 39; refine (rdigit_any _ _).mono ?_; rintro e w2 ⟨he, rfl⟩; rw [if_pos hx] at he; subst he)
              go_roundw
              case rel => exact ⟨k + 1, by omega, by go_num, trivial, Lib.hid fun j c hj hn hc => by
                by_cases hjk : j = k
                · subst hjk
                  rw [HG.out] at hc
                  rw [← Option.some.inj hc]; exact hx
                · exact HK.out j c (by omega) hn hc⟩
              case measure => simp [intOf]; omega
            · go_wp2_with (go_at_call 39; refine (rdigit_any _ _).mono ?_; rintro e w2 ⟨he, rfl⟩; rw [if_neg hx] at he; subst he)
              go_ret
              exact ⟨false, rfl, ⟨fun h => Bool.noConfusion h, fun h => absurd ((hI.out.1 h).2.2 k _ hlt HK4.out HG.out) hx⟩, rfl⟩
        · have hlt1 : ¬ (k : Int) < 21 := by omega
          go_wp2
          go_ret
          refine ⟨true, rfl, ⟨fun _ => hI.out.2 ⟨by rw [sz]; exact HL.out, by rw [H4.out, HC.out], fun j c hj => HK.out j c (by omega)⟩, fun _ => rfl⟩, rfl⟩
    · have hc1 : ¬ (f[4].toNat : Int) = 36 := fun h => hc (by apply UInt8.toNat_inj.1; show f[4].toNat = 36; omega)
      have HC := Lib.hid hc
      clear hc
      go_enter Tryz.func38, Tryz.ntmps38
      go_wp2
      go_ret
      refine ⟨false, rfl, ⟨fun h => Bool.noConfusion h, fun h => ?_⟩, rfl⟩
      have := (hI.out.1 h).2.1
      rw [H4.out] at this
      exact absurd (Option.some.inj this) HC.out
  · have hz : ¬ (f.size : Int) = 21 := by omega
    have HL := Lib.hid hl
    clear hl
    go_enter Tryz.func38, Tryz.ntmps38
    go_wp2
    go_ret
    exact ⟨false, rfl, ⟨fun h => Bool.noConfusion h, fun h => absurd (by rw [← sz]; exact (hI.out.1 h).1) HL.out⟩, rfl⟩
end Go.Proofs.Mz
/- The document's Right and Matches. -/
namespace Go.Proofs.Mz
open Go.RowKit

def BoolPost (P : Prop) (w : World) (e : Ending) (w' : World) : Prop := ∃ r : Bool, e = .returned (.bool r) ∧ (r = true ↔ P) ∧ Below w.heap.size w w'

theorem rright_any (f : ByteArray) (w : World) (hf : f.size ≤ 140737488351232) : Calls Tryz.prog 107 #[.string f] w (BoolPost (RightP f) w) := by
  by_cases h0 : f.data.toList = []
  · have h1 := (emp_iff f).2 h0
    have H0 := Lib.hid h0
    clear h0
    go_enter Tryz.func107, Tryz.ntmps107
    go_wp2
    go_ret
    exact ⟨true, rfl, ⟨fun _ => .inl H0.out, fun _ => rfl⟩, Below.refl _ _⟩
  · have h1 : f.toList.isEmpty = false := emp_no h0
    have H0 := Lib.hid h0
    clear h0
    by_cases h4 : f.data.toList = [42]
    · have h5 : (f.toList == [42]) = true := by rw [toList_data, beq_iff_eq]; exact h4
      have H4 := Lib.hid h4
      clear h4 h1
      have h1 : f.toList.isEmpty = false := emp_no H0.out
      go_enter Tryz.func107, Tryz.ntmps107
      go_wp2
      go_ret
      exact ⟨true, rfl, ⟨fun _ => .inr (.inl H4.out), fun _ => rfl⟩, Below.refl _ _⟩
    · have h5 : (f.toList == [42]) = false := by
        cases hh : f.toList == [42] with
        | false => rfl
        | true => rw [toList_data, beq_iff_eq] at hh; exact absurd hh h4
      have H4 := Lib.hid h4
      clear h4
      go_enter Tryz.func107, Tryz.ntmps107
      go_wp2_with (go_at_call 38; refine (ris_any f _ hf).mono ?_; rintro e w' ⟨r, rfl, hr, rfl⟩)
      go_ret
      exact ⟨r, rfl, hr.trans ⟨fun h => .inr (.inr h), fun h => by
        rcases h with h | h | h
        · exact absurd h H0.out
        · exact absurd h H4.out
        · exact h⟩, Below.refl _ _⟩

set_option maxHeartbeats 1000000 in
theorem rmatches_any (f p : ByteArray) (w : World) (hf : f.size ≤ 140737488351232) (hp : p.size ≤ 2000) : Calls Tryz.prog 19 #[.string f, .string p] w (BoolPost (MatchP f p) w) := by
  by_cases h0 : f.data.toList = []
  · have h1 := (emp_iff f).2 h0
    have H0 := Lib.hid h0
    clear h0
    by_cases hp0 : p.data.toList = []
    · have hp1 := (emp_iff p).2 hp0
      have HP0 := Lib.hid hp0
      clear hp0
      go_enter Tryz.func19, Tryz.ntmps19
      go_wp2
      go_ret
      exact ⟨true, rfl, ⟨fun _ => .inl ⟨H0.out, HP0.out⟩, fun _ => rfl⟩, Below.refl _ _⟩
    · have hp1 : p.toList.isEmpty = false := emp_no hp0
      have HP0 := Lib.hid hp0
      clear hp0
      go_enter Tryz.func19, Tryz.ntmps19
      go_wp2
      go_ret
      exact ⟨false, rfl, ⟨fun h => Bool.noConfusion h, fun h => by
        rcases h with ⟨_, h⟩ | ⟨h, _⟩
        · exact absurd h HP0.out
        · rw [H0.out] at h
          obtain ⟨x, y, he, -⟩ := h
          simp at he⟩, Below.refl _ _⟩
  · have h1 : f.toList.isEmpty = false := emp_no h0
    have H0 := Lib.hid h0
    clear h0
    go_enter Tryz.func19, Tryz.ntmps19
    go_wp2_with fail
    refine (ris_any f _ hf).mono ?_
    rintro e w' ⟨r, rfl, hr, rfl⟩
    have HR := Lib.hid hr
    clear hr
    cases r with
    | false =>
      go_wp2
      go_ret
      exact ⟨false, rfl, ⟨fun h => Bool.noConfusion h, fun h => by
        rcases h with ⟨h, _⟩ | ⟨h, _⟩
        · exact absurd h H0.out
        · exact absurd (HR.out.2 h) (by simp)⟩, Below.refl _ _⟩
    | true =>
      have hF := (isField_iff _).1 (HR.out.1 (by simp))
      have hsz : f.size = 21 := by rw [← sz]; exact hF.1
      have HF := Lib.hid hF
      have HS := Lib.hid hsz
      clear hF hsz
      go_wp2
      go_loopw [6, 7] (fun vs vi wr => ∃ (k acc : Nat) (a : Int), vs = .int .i64 a ∧ vi = .int .i64 k ∧ k ≤ 4 ∧ wr = w' ∧ Hid (a = (acc : Int) ∧ acc = readN (f.data.toList.take k) ∧ acc < 16 ^ k)) (fun vs vi _ => 4 - (intOf vi).toNat)
      case atStart => exact ⟨0, 0, 0, rfl, rfl, by omega, rfl, Lib.hid ⟨rfl, rfl, by decide⟩⟩
      case round =>
        obtain ⟨k, acc, a, rfl, rfl, hk, rfl, HA⟩ := hrel
        by_cases hlt : k < 4
        · have hlt1 : (k : Int) < 4 := by omega
          have hks : k < f.size := by have := HS.out; omega
          have hks1 : (k : Int) < f.size := by omega
          have hx : isHex f[k] = true := HF.out.2.2 k _ (by omega) (by omega) (get_data f k hks)
          have hv := val_lt hx
          have hacc3 : acc < 4096 := by
            have h16 : 16 ^ k ≤ 16 ^ 3 := Nat.pow_le_pow_right (by decide) (by omega)
            have := HA.out.2.2
            omega
          have htk : f.data.toList.take (k + 1) = f.data.toList.take k ++ [f[k]] := by
            rw [List.take_succ_eq_append_getElem (by rw [sz]; exact hks)]; rfl
          have HN : Hid (16 * a + ((val f[k] : Nat) : Int) = ((16 * acc + val f[k] : Nat) : Int) ∧ 16 * acc + val f[k] = readN (f.data.toList.take (k + 1)) ∧ 16 * acc + val f[k] < 16 ^ (k + 1)) :=
            Lib.hid ⟨by rw [HA.out.1]; omega, by rw [htk, readN_app, ← HA.out.2.1], by have := HA.out.2.2; rw [Nat.pow_succ]; omega⟩
          have a0 : 0 ≤ a := by rw [HA.out.1]; omega
          have a1 : a ≤ 4095 := by rw [HA.out.1]; omega
          have hv1 : ((val f[k] : Nat) : Int) ≤ 15 := by omega
          have HX := Lib.hid hx
          clear hx hv hacc3 htk
          go_wp2_with (go_at_call 39; refine (rdigit_any _ _).mono ?_; rintro e w2 ⟨he, rfl⟩; rw [if_pos HX.out] at he; subst he)
          go_roundw
          case rel => exact ⟨k + 1, _, _, rfl, by go_num, by omega, trivial, HN⟩
          case measure => simp [intOf]; omega
        · have hlt1 : ¬ (k : Int) < 4 := by omega
          have hA : a = ((readN (f.data.toList.take 4) : Nat) : Int) := by rw [HA.out.1, HA.out.2.1, show k = 4 by omega]
          subst hA
          have HFi := Lib.hid (HR.out.1 (by simp))
          have HM : Hid (MatchP f p ↔ (f.data.toList = [] ∧ p.data.toList = []) ∨ (isField f.data.toList ∧ FS (readN (f.data.toList.take 4) : Nat) p = f.data.toList)) := Lib.hid Iff.rfl
          clear HA
          generalize readN (f.data.toList.take 4) = R at *
          go_wp2_with fail
          refine (rfield_any R p _ hp).mono ?_
          rintro e w2 ⟨s, hs, rfl, hb2⟩
          have HS2 := Lib.hid hs
          have HB2 := Lib.hid hb2
          clear hs hb2
          go_wp2
          go_ret
          refine ⟨_, rfl, ?_, HB2.out⟩
          rw [toList_data, toList_data, beq_iff_eq, HS2.out, HM.out]
          constructor
          · exact fun h => .inr ⟨HFi.out, h⟩
          · rintro (⟨h, _⟩ | ⟨_, h⟩)
            · exact absurd h H0.out
            · exact h
end Go.Proofs.Mz
