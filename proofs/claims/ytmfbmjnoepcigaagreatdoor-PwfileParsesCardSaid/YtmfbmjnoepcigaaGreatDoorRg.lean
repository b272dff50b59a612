/- The document's line. -/
import Derived.Test.YtmfbmjnoepcigaaGreatDoorRd
import Derived.Test.YtmfbmjnoepcigaaGreatDoorJ
namespace Go.Proofs.YtmfbmjnoepcigaaGreatDoor
open Go.RowKit

theorem line_cat (u : UserS) : u.name ++ ⟨#[58]⟩ ++ u.pass ++ ⟨#[58]⟩ ++ digS u.id.toNat ++ ⟨#[58]⟩ ++ digS u.group.toNat ++ ⟨#[58]⟩ ++ u.home ++ ⟨#[58]⟩ ++ u.shell = (⟨(lineB u).toArray⟩ : ByteArray) := by
  refine ba_eq ?_
  unfold lineB digS
  simp
set_option maxHeartbeats 8000000 in
set_option maxRecDepth 100000 in
theorem rline_any (u : UserS) (w : World) (h0 : 0 ≤ u.id) (h1 : u.id ≤ 65535) (h2 : 0 ≤ u.group) (h3 : u.group ≤ 65535) (n0 : u.name.size ≤ 1000) (n1 : u.pass.size ≤ 1000) (n2 : u.home.size ≤ 1000) (n3 : u.shell.size ≤ 1000) :
    Calls Tryz.prog 29 #[.agg (userC u)] w fun e w' => e = .returned (.string ⟨(lineB u).toArray⟩) ∧ Below w.heap.size w w' := by
  have hb0 : Below w.heap.size w (w.alloc (.cells (userC u) 29)) := (Below.refl _ _).alloc (Nat.le_refl _) _
  have hu0 : UC (w.alloc (.cells (userC u) 29)) w.heap.size 0 u := box_six (u := 29) (Below.refl _ _)
  have KP : ∀ W', Below (w.alloc (.cells (userC u) 29)).heap.size (w.alloc (.cells (userC u) 29)) W' → (Below (w.alloc (.cells (userC u) 29)).heap.size (w.alloc (.cells (userC u) 29)) W' ∧ W'.cell? ⟨w.heap.size, 0, none⟩ = some (.string u.name) ∧ W'.cell? ⟨w.heap.size, 1, none⟩ = some (.string u.pass) ∧ W'.cell? ⟨w.heap.size, 2, none⟩ = some (.int .i64 u.id) ∧ W'.cell? ⟨w.heap.size, 3, none⟩ = some (.int .i64 u.group) ∧ W'.cell? ⟨w.heap.size, 4, none⟩ = some (.string u.home) ∧ W'.cell? ⟨w.heap.size, 5, none⟩ = some (.string u.shell)) := fun W' hW' => by
    have h := hu0.below hW'
    exact ⟨hW', h.g0, h.g1, h.g2, h.g3, h.g4, h.g5⟩
  obtain ⟨N1, hN1⟩ : ∃ N : Nat, u.id = N := ⟨u.id.toNat, by omega⟩
  obtain ⟨N2, hN2⟩ : ∃ N : Nat, u.group = N := ⟨u.group.toNat, by omega⟩
  have HI : ∀ W', (Calls Tryz.prog 47 #[.int .i64 u.id] W' fun e w' => e = .returned (.string (digS u.id.toNat)) ∧ Below W'.heap.size W' w') ∧ (Calls Tryz.prog 47 #[.int .i64 u.group] W' fun e w' => e = .returned (.string (digS u.group.toNat)) ∧ Below W'.heap.size W' w') := fun W' => by
    rw [hN1, hN2, Int.toNat_natCast, Int.toNat_natCast]
    exact ⟨rdigits_any _ _ (by omega), rdigits_any _ _ (by omega)⟩
  have d1 : (digS u.id.toNat).size ≤ 5 := by
    rw [← sz]; exact dec_small (by omega)
  have d2 : (digS u.group.toNat).size ≤ 5 := by
    rw [← sz]; exact dec_small (by omega)
  have HCAT := Lib.hid (line_cat u)
  have HB0 := Lib.hid hb0
  have HLE := Lib.hid hb0.size
  obtain ⟨c0, c1, c2, c3, c4, c5⟩ := hu0.at0
  clear hu0 hb0 hN1 hN2 h0 h1 h2 h3
  generalize digS u.id.toNat = D1 at *
  generalize digS u.group.toNat = D2 at *
  have m0 : (u.name.size : Int) ≤ 1000 := by omega
  have m1 : (u.pass.size : Int) ≤ 1000 := by omega
  have m2 : (u.home.size : Int) ≤ 1000 := by omega
  have m3 : (u.shell.size : Int) ≤ 1000 := by omega
  have m4 : (D1.size : Int) ≤ 5 := by omega
  have m5 : (D2.size : Int) ≤ 5 := by omega
  have z1 : ¬ 9223372036854775807 < u.name.size + 1 := by omega
  have z2 : ¬ 9223372036854775807 < u.name.size + 1 + u.pass.size := by omega
  have z3 : ¬ 9223372036854775807 < u.name.size + 1 + u.pass.size + 1 := by omega
  have z4 : ¬ 9223372036854775807 < u.name.size + 1 + u.pass.size + 1 + D1.size := by omega
  have z5 : ¬ 9223372036854775807 < u.name.size + 1 + u.pass.size + 1 + D1.size + 1 := by omega
  have z6 : ¬ 9223372036854775807 < u.name.size + 1 + u.pass.size + 1 + D1.size + 1 + D2.size := by omega
  have z7 : ¬ 9223372036854775807 < u.name.size + 1 + u.pass.size + 1 + D1.size + 1 + D2.size + 1 := by omega
  have z8 : ¬ 9223372036854775807 < u.name.size + 1 + u.pass.size + 1 + D1.size + 1 + D2.size + 1 + u.home.size := by omega
  have z9 : ¬ 9223372036854775807 < u.name.size + 1 + u.pass.size + 1 + D1.size + 1 + D2.size + 1 + u.home.size + 1 := by omega
  have z10 : ¬ 9223372036854775807 < u.name.size + 1 + u.pass.size + 1 + D1.size + 1 + D2.size + 1 + u.home.size + 1 + u.shell.size := by omega
  clear m0 m1 m2 m3 m4 m5 n0 n1 n2 n3 d1 d2
  rw [← HCAT.out]
  clear HCAT
  unfold userC at *
  go_enter Tryz.func29, Tryz.ntmps29
  go_upto_region 1 with fail
  generalize w.alloc (.cells #[.string u.name, .string u.pass, .int .i64 u.id, .int .i64 u.group, .string u.home, .string u.shell] 29) = W0 at *
  generalize hn0 : w.heap.size = n0 at *
  refine wp_region_held_drew (S := (fun W' => Below W0.heap.size W0 W' ∧ W'.cell? ⟨n0, 0, none⟩ = some (.string u.name) ∧ W'.cell? ⟨n0, 1, none⟩ = some (.string u.pass) ∧ W'.cell? ⟨n0, 2, none⟩ = some (.int .i64 u.id) ∧ W'.cell? ⟨n0, 3, none⟩ = some (.int .i64 u.group) ∧ W'.cell? ⟨n0, 4, none⟩ = some (.string u.home) ∧ W'.cell? ⟨n0, 5, none⟩ = some (.string u.shell))) (by kernel_rfl) (KP _ (Below.refl _ _).drew) (fun hHeld => ?_)
  refine wpAnyH_take (i := 0) (v := ?_) rfl (by kernel_rfl) (by kernel_rfl) (by kernel_rfl) (fun _ _ _ h => h) (Or.inl ⟨by rfl, ?_⟩) (by assumption) ?_
  rotate_left
  · (intro W hSw; (try dsimp only at hSw); go_simp; try with_reducible rfl)
  try simp only [List.getElem_toArray, List.getElem_cons_zero, List.getElem_cons_succ, Act.put, List.setIfInBounds_toArray, List.set_cons_zero, List.set_cons_succ]
  refine wpAnyH_take (i := 1) (v := ?_) rfl (by kernel_rfl) (by kernel_rfl) (by kernel_rfl) (fun _ _ _ h => h) (Or.inl ⟨by rfl, ?_⟩) (by assumption) ?_
  rotate_left
  · (intro W hSw; (try dsimp only at hSw); go_simp; try with_reducible rfl)
  try simp only [List.getElem_toArray, List.getElem_cons_zero, List.getElem_cons_succ, Act.put, List.setIfInBounds_toArray, List.set_cons_zero, List.set_cons_succ]
  refine wpAnyH_take (i := 2) (v := ?_) rfl (by kernel_rfl) (by kernel_rfl) (by kernel_rfl) (fun _ _ _ h => h) (Or.inl ⟨by rfl, ?_⟩) (by assumption) ?_
  rotate_left
  · (intro W hSw; (try dsimp only at hSw); go_simp; try with_reducible rfl)
  try simp only [List.getElem_toArray, List.getElem_cons_zero, List.getElem_cons_succ, Act.put, List.setIfInBounds_toArray, List.set_cons_zero, List.set_cons_succ]
  refine wpAnyH_take (i := 3) (v := ?_) rfl (by kernel_rfl) (by kernel_rfl) (by kernel_rfl) (fun _ _ _ h => h) (Or.inl ⟨by rfl, ?_⟩) (by assumption) ?_
  rotate_left
  · (intro W hSw; (try dsimp only at hSw); go_simp; try with_reducible rfl)
  try simp only [List.getElem_toArray, List.getElem_cons_zero, List.getElem_cons_succ, Act.put, List.setIfInBounds_toArray, List.set_cons_zero, List.set_cons_succ]
  refine wpAnyH_take (i := 4) (v := ?_) rfl (by kernel_rfl) (by kernel_rfl) (by kernel_rfl) (fun _ _ _ h => h) (Or.inl ⟨by rfl, ?_⟩) (by assumption) ?_
  rotate_left
  · (intro W hSw; (try dsimp only at hSw); go_simp; try with_reducible rfl)
  try simp only [List.getElem_toArray, List.getElem_cons_zero, List.getElem_cons_succ, Act.put, List.setIfInBounds_toArray, List.set_cons_zero, List.set_cons_succ]
  refine wpAnyH_take (i := 5) (v := ?_) rfl (by kernel_rfl) (by kernel_rfl) (by kernel_rfl) (fun _ _ _ h => h) (Or.inl ⟨by rfl, ?_⟩) (by assumption) ?_
  rotate_left
  · (intro W hSw; (try dsimp only at hSw); go_simp; try with_reducible rfl)
  try simp only [List.getElem_toArray, List.getElem_cons_zero, List.getElem_cons_succ, Act.put, List.setIfInBounds_toArray, List.set_cons_zero, List.set_cons_succ]
  refine wpAnyH_take (i := 6) (v := ?_) rfl (by kernel_rfl) (by kernel_rfl) (by kernel_rfl) (fun _ _ _ h => h) (Or.inl ⟨by rfl, ?_⟩) (by assumption) ?_
  rotate_left
  · (intro W hSw; (try dsimp only at hSw); go_simp; try with_reducible rfl)
  try simp only [List.getElem_toArray, List.getElem_cons_zero, List.getElem_cons_succ, Act.put, List.setIfInBounds_toArray, List.set_cons_zero, List.set_cons_succ]
  refine wpAnyH_take (i := 7) (v := ?_) rfl (by kernel_rfl) (by kernel_rfl) (by kernel_rfl) (fun _ _ _ h => h) (Or.inl ⟨by rfl, ?_⟩) (by assumption) ?_
  rotate_left
  · (intro W hSw; (try dsimp only at hSw); go_simp; try with_reducible rfl)
  try simp only [List.getElem_toArray, List.getElem_cons_zero, List.getElem_cons_succ, Act.put, List.setIfInBounds_toArray, List.set_cons_zero, List.set_cons_succ]
  refine wpAnyH_take (i := 8) (v := ?_) rfl (by kernel_rfl) (by kernel_rfl) (by kernel_rfl) (fun _ _ _ h => h) (Or.inl ⟨by rfl, ?_⟩) (by assumption) ?_
  rotate_left
  · (intro W hSw; (try dsimp only at hSw); go_simp; try with_reducible rfl)
  try simp only [List.getElem_toArray, List.getElem_cons_zero, List.getElem_cons_succ, Act.put, List.setIfInBounds_toArray, List.set_cons_zero, List.set_cons_succ]
  refine wpAnyH_take (i := 12) (v := ?_) rfl (by kernel_rfl) (by kernel_rfl) (by kernel_rfl) (fun _ _ _ h => h) (Or.inl ⟨by rfl, ?_⟩) (by assumption) ?_
  rotate_left
  · (intro W hSw; (try dsimp only at hSw); go_simp; try with_reducible rfl)
  try simp only [List.getElem_toArray, List.getElem_cons_zero, List.getElem_cons_succ, Act.put, List.setIfInBounds_toArray, List.set_cons_zero, List.set_cons_succ]
  refine wpAnyH_take (i := 13) (v := ?_) rfl (by kernel_rfl) (by kernel_rfl) (by kernel_rfl) (fun _ _ _ h => h) (Or.inl ⟨by rfl, ?_⟩) (by assumption) ?_
  rotate_left
  · (intro W hSw; (try dsimp only at hSw); go_simp; try with_reducible rfl)
  try simp only [List.getElem_toArray, List.getElem_cons_zero, List.getElem_cons_succ, Act.put, List.setIfInBounds_toArray, List.set_cons_zero, List.set_cons_succ]
  refine wpAnyH_take (i := 17) (v := ?_) rfl (by kernel_rfl) (by kernel_rfl) (by kernel_rfl) (fun _ _ _ h => h) (Or.inl ⟨by rfl, ?_⟩) (by assumption) ?_
  rotate_left
  · (intro W hSw; (try dsimp only at hSw); go_simp; try with_reducible rfl)
  try simp only [List.getElem_toArray, List.getElem_cons_zero, List.getElem_cons_succ, Act.put, List.setIfInBounds_toArray, List.set_cons_zero, List.set_cons_succ]
  refine wpAnyH_take (i := 18) (v := ?_) rfl (by kernel_rfl) (by kernel_rfl) (by kernel_rfl) (fun _ _ _ h => h) (Or.inl ⟨by rfl, ?_⟩) (by assumption) ?_
  rotate_left
  · (intro W hSw; (try dsimp only at hSw); go_simp; try with_reducible rfl)
  try simp only [List.getElem_toArray, List.getElem_cons_zero, List.getElem_cons_succ, Act.put, List.setIfInBounds_toArray, List.set_cons_zero, List.set_cons_succ]
  refine wpAnyH_take (i := 21) (v := ?_) rfl (by kernel_rfl) (by kernel_rfl) (by kernel_rfl) (fun _ _ _ h => h) (Or.inl ⟨by rfl, ?_⟩) (by assumption) ?_
  rotate_left
  · (intro W hSw; (try dsimp only at hSw); go_simp; try with_reducible rfl)
  try simp only [List.getElem_toArray, List.getElem_cons_zero, List.getElem_cons_succ, Act.put, List.setIfInBounds_toArray, List.set_cons_zero, List.set_cons_succ]
  refine wpAnyH_take (i := 22) (v := ?_) rfl (by kernel_rfl) (by kernel_rfl) (by kernel_rfl) (fun _ _ _ h => h) (Or.inl ⟨by rfl, ?_⟩) (by assumption) ?_
  rotate_left
  · (intro W hSw; (try dsimp only at hSw); go_simp; try with_reducible rfl)
  try simp only [List.getElem_toArray, List.getElem_cons_zero, List.getElem_cons_succ, Act.put, List.setIfInBounds_toArray, List.set_cons_zero, List.set_cons_succ]
  refine wpAnyH_ready (rs := [9]) (by kernel_rfl) (by simp) ?_
  refine AllReadyH.cons rfl (fun K hK => ?_) AllReadyH.nil
  simp only [List.getElem_toArray, List.getElem_cons_zero, List.getElem_cons_succ]
  go_simp
  go_at_call 47
  refine ((HI _).1).mono ?_
  rintro e w1 ⟨rfl, hb⟩
  have hbzw1 : Below W0.heap.size W0 w1 := hHeld.1.trans (hb.mono hHeld.1.size)
  clear hb
  refine hK.out _ _ ?_ (fun hHeld => ?_)
  · (try dsimp only); exact KP _ hbzw1
  clear hK K
  try simp only [List.getElem_toArray, List.getElem_cons_zero, List.getElem_cons_succ, Act.put, List.setIfInBounds_toArray, List.set_cons_zero, List.set_cons_succ]
  refine wpAnyH_take (i := 10) (v := ?_) rfl (by kernel_rfl) (by kernel_rfl) (by kernel_rfl) (fun _ _ _ h => h) (Or.inl ⟨by rfl, ?_⟩) (by assumption) ?_
  rotate_left
  · (intro W hSw; (try dsimp only at hSw); go_simp; try with_reducible rfl)
  try simp only [List.getElem_toArray, List.getElem_cons_zero, List.getElem_cons_succ, Act.put, List.setIfInBounds_toArray, List.set_cons_zero, List.set_cons_succ]
  refine wpAnyH_take (i := 11) (v := ?_) rfl (by kernel_rfl) (by kernel_rfl) (by kernel_rfl) (fun _ _ _ h => h) (Or.inl ⟨by rfl, ?_⟩) (by assumption) ?_
  rotate_left
  · (intro W hSw; (try dsimp only at hSw); go_simp; try with_reducible rfl)
  try simp only [List.getElem_toArray, List.getElem_cons_zero, List.getElem_cons_succ, Act.put, List.setIfInBounds_toArray, List.set_cons_zero, List.set_cons_succ]
  refine wpAnyH_ready (rs := [14]) (by kernel_rfl) (by simp) ?_
  refine AllReadyH.cons rfl (fun K hK => ?_) AllReadyH.nil
  simp only [List.getElem_toArray, List.getElem_cons_zero, List.getElem_cons_succ]
  go_simp
  go_at_call 47
  refine ((HI _).2).mono ?_
  rintro e w2 ⟨rfl, hb⟩
  have hbzw2 : Below W0.heap.size W0 w2 := hHeld.1.trans (hb.mono hHeld.1.size)
  clear hb
  refine hK.out _ _ ?_ (fun hHeld => ?_)
  · (try dsimp only); exact KP _ hbzw2
  clear hK K
  try simp only [List.getElem_toArray, List.getElem_cons_zero, List.getElem_cons_succ, Act.put, List.setIfInBounds_toArray, List.set_cons_zero, List.set_cons_succ]
  refine wpAnyH_take (i := 15) (v := ?_) rfl (by kernel_rfl) (by kernel_rfl) (by kernel_rfl) (fun _ _ _ h => h) (Or.inl ⟨by rfl, ?_⟩) (by assumption) ?_
  rotate_left
  · (intro W hSw; (try dsimp only at hSw); go_simp; try with_reducible rfl)
  try simp only [List.getElem_toArray, List.getElem_cons_zero, List.getElem_cons_succ, Act.put, List.setIfInBounds_toArray, List.set_cons_zero, List.set_cons_succ]
  refine wpAnyH_take (i := 16) (v := ?_) rfl (by kernel_rfl) (by kernel_rfl) (by kernel_rfl) (fun _ _ _ h => h) (Or.inl ⟨by rfl, ?_⟩) (by assumption) ?_
  rotate_left
  · (intro W hSw; (try dsimp only at hSw); go_simp; try with_reducible rfl)
  try simp only [List.getElem_toArray, List.getElem_cons_zero, List.getElem_cons_succ, Act.put, List.setIfInBounds_toArray, List.set_cons_zero, List.set_cons_succ]
  refine wpAnyH_take (i := 19) (v := ?_) rfl (by kernel_rfl) (by kernel_rfl) (by kernel_rfl) (fun _ _ _ h => h) (Or.inl ⟨by rfl, ?_⟩) (by assumption) ?_
  rotate_left
  · (intro W hSw; (try dsimp only at hSw); go_simp; try with_reducible rfl)
  try simp only [List.getElem_toArray, List.getElem_cons_zero, List.getElem_cons_succ, Act.put, List.setIfInBounds_toArray, List.set_cons_zero, List.set_cons_succ]
  refine wpAnyH_take (i := 20) (v := ?_) rfl (by kernel_rfl) (by kernel_rfl) (by kernel_rfl) (fun _ _ _ h => h) (Or.inl ⟨by rfl, ?_⟩) (by assumption) ?_
  rotate_left
  · (intro W hSw; (try dsimp only at hSw); go_simp; try with_reducible rfl)
  try simp only [List.getElem_toArray, List.getElem_cons_zero, List.getElem_cons_succ, Act.put, List.setIfInBounds_toArray, List.set_cons_zero, List.set_cons_succ]
  refine wpAnyH_take (i := 23) (v := ?_) rfl (by kernel_rfl) (by kernel_rfl) (by kernel_rfl) (fun _ _ _ h => h) (Or.inl ⟨by rfl, ?_⟩) (by assumption) ?_
  rotate_left
  · (intro W hSw; (try dsimp only at hSw); go_simp; try with_reducible rfl)
  try simp only [List.getElem_toArray, List.getElem_cons_zero, List.getElem_cons_succ, Act.put, List.setIfInBounds_toArray, List.set_cons_zero, List.set_cons_succ]
  refine wpAnyH_take (i := 24) (v := ?_) rfl (by kernel_rfl) (by kernel_rfl) (by kernel_rfl) (fun _ _ _ h => h) (Or.inl ⟨by rfl, ?_⟩) (by assumption) ?_
  rotate_left
  · (intro W hSw; (try dsimp only at hSw); go_simp; try with_reducible rfl)
  try simp only [List.getElem_toArray, List.getElem_cons_zero, List.getElem_cons_succ, Act.put, List.setIfInBounds_toArray, List.set_cons_zero, List.set_cons_succ]
  refine wpAnyH_done (by kernel_rfl) ?_ _
  have HB := Lib.hid (HB0.out.trans (hbzw2.mono HLE.out))
  clear hbzw1 hbzw2 hHeld KP HI
  go_wp2
  go_ret
  exact ⟨rfl, by rw [hn0]; exact HB.out⟩
end Go.Proofs.YtmfbmjnoepcigaaGreatDoor
