import Derived.Test.YtinmdegmnepheaaDoorD
namespace Go.Proofs.YtinmdegmnepheaaDoor
open Go.RowKit

set_option maxHeartbeats 400000 in
theorem split_any (s : ByteArray) (w : World) (hs : s.size ≤ 140737488351232) : Calls Tryd.prog 12 #[.string s] w (splitPost s w) := by
  by_cases h0 : s.data.toList = []
  · have h1 : s.toList = [] := by rw [toList_data]; exact h0
    have HF : Hid (splitS s.data.toList = (false, false, [], 3)) := Lib.hid (by rw [splitS, if_pos h0])
    clear h0
    go_enter Tryd.func12, Tryd.ntmps12
    go_wp2
    exact bodyPost_ret (v := .tuple #[.agg #[.bool false, .slice none 0 0, .bool false], .int .i64 3]) (by simp [results, Tryd.results12, go_sem]) rfl ⟨false, false, .slice none 0 0, [], 3, rfl, ⟨rfl, .inl ⟨rfl, rfl⟩⟩, ((Below.refl _ _).alloc (Nat.le_refl _) _).alloc (by simp) _, HF.out⟩
  · by_cases hb : s.size ≤ 128
    · exact split_main s w h0 hb
    · have h1 : s.toList.isEmpty = false := by rw [toList_data]; cases hh : s.data.toList with | nil => exact absurd hh h0 | cons => rfl
      have hb1 : (128 : Int) < s.size := by omega
      have HF : Hid (splitS s.data.toList = (false, false, [], 10)) := Lib.hid (split_long h0 (.inl (by rw [sz]; omega)))
      clear h0
      go_enter Tryd.func12, Tryd.ntmps12
      go_wp2
      exact bodyPost_ret (v := .tuple #[.agg #[.bool false, .slice none 0 0, .bool false], .int .i64 10]) (by simp [results, Tryd.results12, go_sem]) rfl ⟨false, false, .slice none 0 0, [], 10, rfl, ⟨rfl, .inl ⟨rfl, rfl⟩⟩, ((Below.refl _ _).alloc (Nat.le_refl _) _).alloc (by simp) _, HF.out⟩

theorem s1 : splitS [47, 97, 47, 47, 46, 47, 98, 47] = (true, true, [[97], [98]], 0) := by decide +kernel
theorem two_of {l : List ByteArray} {a b : Bytes} (h : [a, b] = l.map (fun x : ByteArray => x.data.toList)) : ∃ x y, l = [x, y] ∧ x.data.toList = a ∧ y.data.toList = b := by
  match l, h with
  | [x, y], h => simp at h; exact ⟨x, y, rfl, h.1.symm, h.2.symm⟩
theorem ba_of {x : ByteArray} {l : Bytes} (h : x.data.toList = l) : x = ⟨l.toArray⟩ := by
  apply ByteArray.ext; apply Array.ext'; rw [h]
theorem t1 : IsTrim ⟨#[47, 97, 47, 98, 47]⟩ 4 := ⟨by decide, fun j h1 h2 => by
  have h3 : j < 5 := h2
  obtain rfl : j = 4 := by omega
  rfl, .inr (by decide)⟩
theorem c1 : IsCut ⟨#[47, 97, 47, 98, 47]⟩ 4 3 := ⟨by decide, fun j h1 h2 => by
  obtain rfl : j = 3 := by omega
  decide, .inr rfl⟩
theorem bAB : bA ⟨#[47, 97, 47, 98, 47]⟩ 4 3 = ⟨#[47, 97, 47]⟩ ∧ bB ⟨#[47, 97, 47, 98, 47]⟩ 4 3 = ⟨#[98]⟩ := by decide +kernel
theorem j1 : joinB ⟨#[97, 47]⟩ ⟨#[98]⟩ = ⟨#[97, 47, 98]⟩ := by decide +kernel
theorem name_x : nameB ⟨#[120]⟩ = true := by decide +kernel

set_option maxHeartbeats 1000000 in
theorem shown_any (w : World) : Calls Tryd.prog 10 #[] w fun e w' => e = .returned (.bool true) ∧ Below w.heap.size w w' := by
  go_enter Tryd.func10, Tryd.ntmps10
  go_wp2_with fail
  refine (split_any _ _ (by decide)).mono ?_
  rintro e w1 ⟨abs, dir, v, l, err, rfl, ho, hb, hsp⟩
  replace hsp : ((true, true, [[97], [98]], 0) : Bool × Bool × List Bytes × Int) = _ := s1.symm.trans hsp
  simp only [Prod.mk.injEq] at hsp
  obtain ⟨rfl, rfl, hl, rfl⟩ := hsp
  obtain ⟨x, y, rfl, hx, hy⟩ := two_of hl
  obtain rfl := ba_of hy
  obtain ⟨a, cap, rfl, hcells⟩ := Sl.of_own ho
  obtain ⟨b1, o1, rfl, hc1⟩ := hcells 1 (show 1 < 2 by omega)
  replace hc1 : w1.cell? ⟨b1, o1 + 1, none⟩ = some (.string ⟨#[98]⟩) := hc1
  have HB := Lib.hid hb
  have hbl := World.block_lt_of_cell? w1 ⟨b1, o1 + 1, none⟩ hc1
  simp only at hbl
  clear hl hcells ho hb hx
  go_wp2_with fail
  refine (base_any _ 4 3 t1 c1 _ (by decide)).mono ?_
  rintro e w2 ⟨he, k, rfl⟩
  rw [bAB.1, bAB.2] at he
  subst he
  go_wp2_with fail
  refine (join_any _ _ _ (by decide) (by decide)).mono ?_
  rintro e w2 ⟨he, rfl⟩
  rw [j1] at he
  subst he
  have hn := name_x
  go_wp2_with fail
  refine (name_any _ _).mono ?_
  rintro e w2 ⟨he, rfl⟩
  rw [name_x] at he
  subst he
  clear hn
  go_wp2
  go_ret
  exact ⟨rfl, (HB.out.trans ((Below.refl _ _).alloc HB.out.size _)).trans ⟨rfl, rfl, rfl, Nat.le_refl _, fun _ _ => rfl⟩⟩
end Go.Proofs.YtinmdegmnepheaaDoor
