/- What the walks need of the world; Itoa; a user's line. -/
import Derived.Test.YtmfbmjnoepcigaaGreatDoorI
import Derived.Deep.RegionHeld3
import Derived.Lib.AppendIntMem
import Derived.Lib.ItoaMem
import Derived.Sort.Grow
namespace Go.Proofs.YtmfbmjnoepcigaaGreatDoor
open Go.RowKit

/-- What the library's variables hold. -/
structure HasW (W : World) : Prop where
  max : ∃ m, W.cell? ⟨0, 0, none⟩ = some (.int .i64 m)
  syn : ∃ u v, W.cell? ⟨1, 0, none⟩ = some (.iface u v)
  rng : ∃ u v, W.cell? ⟨2, 0, none⟩ = some (.iface u v)
  pow : Lib.TabIs Tryz.prog W "internal/strconv.uint64pow10" .u64 Lib.pow10Tab
theorem cell_below {w w' : World} {b i : Nat} {v : Value} (h : w.cell? ⟨b, i, none⟩ = some v) (hb : Below w.heap.size w w') : w'.cell? ⟨b, i, none⟩ = some v := by
  rw [hb.cell (p := ⟨b, i, none⟩) (World.block_lt_of_cell? w _ h)]; exact h
theorem HasW.below {w w' : World} (h : HasW w) (hb : Below w.heap.size w w') : HasW w' := by
  obtain ⟨m, hm⟩ := h.max
  obtain ⟨u, v, hs⟩ := h.syn
  obtain ⟨u', v', hr⟩ := h.rng
  exact ⟨⟨m, cell_below hm hb⟩, ⟨u, v, cell_below hs hb⟩, ⟨u', v', cell_below hr hb⟩, Lib.tabBelow_of_tabIs h.pow _ hb⟩
theorem below_grow (w : World) (k : Nat) (os : Array Obj) : Below w.heap.size w (Go.Sort.grow (w.drewN k) os) :=
  ⟨rfl, rfl, rfl, by rw [Go.Sort.size_grow]; exact Nat.le_add_right _ _, fun j hj => by
    show (w.heap ++ os)[j]? = w.heap[j]?
    rw [Array.getElem?_append_left hj]⟩
theorem dec_lib : ∀ (k u : Nat), u ≤ k → Lib.decDigits u = decD u
  | k, u, h => by
    by_cases h9 : u ≤ 9
    · rw [decD_le h9, Lib.decDigits_one (by omega)]; rfl
    · match k, h with
      | 0, h => omega
      | k + 1, h =>
        rw [decD_gt h9, Lib.decDigits, dif_neg (by omega), dec_lib k (u / 10) (by omega)]
        rfl
theorem itoa_any (n : Int) (h0 : 0 ≤ n) (h1 : n ≤ 65535) (w : World) (hW : HasW w) :
    Calls Tryz.prog 46 #[.int .i64 n] w fun e w' => e = .returned (.string ⟨(decD n.toNat).toArray⟩) ∧ Below w.heap.size w w' := by
  refine (Tryz.strconv_Itoa n (by omega) (by omega) w hW.pow).mono ?_
  rintro e w' ⟨rfl, k, os, rfl⟩
  refine ⟨?_, below_grow w k os⟩
  have : Lib.itoa n = decD n.toNat := by
    obtain ⟨m, rfl⟩ : ∃ m : Nat, n = m := ⟨n.toNat, by omega⟩
    rw [Lib.itoa_nonneg, dec_lib m m (Nat.le_refl _)]
    rfl
  rw [this]
def six (u : UserS) : List ByteArray := [u.name, u.pass, ⟨(decD u.id.toNat).toArray⟩, ⟨(decD u.group.toNat).toArray⟩, u.home, u.shell]
theorem join_six (u : UserS) : Lib.join ((six u).map (·.data.toList)) [58] = lineB u := by
  unfold six lineB
  simp only [List.map_cons, List.map_nil, Lib.join_cons, Lib.joinTail]
  simp
theorem drewN_below {B : Nat} {w W : World} (h : Below B w W) (k : Nat) : Below B w (W.drewN k) := h.trans ⟨rfl, rfl, rfl, Nat.le_refl _, fun _ _ => rfl⟩
/-- What a region holds of a world while it is walked. -/
def LineS (W0 : World) (n : Nat) (u : UserS) (W' : World) : Prop := Below W0.heap.size W0 W' ∧ W'.cell? ⟨n, 0, none⟩ = some (.string u.name) ∧ W'.cell? ⟨n, 1, none⟩ = some (.string u.pass) ∧ W'.cell? ⟨n, 2, none⟩ = some (.int .i64 u.id) ∧ W'.cell? ⟨n, 3, none⟩ = some (.int .i64 u.group) ∧ W'.cell? ⟨n, 4, none⟩ = some (.string u.home) ∧ W'.cell? ⟨n, 5, none⟩ = some (.string u.shell)
set_option maxHeartbeats 4000000 in
set_option maxRecDepth 100000 in
theorem line_any (u : UserS) (w : World) (hW : HasW w) (h0 : 0 ≤ u.id) (h1 : u.id ≤ 65535) (h2 : 0 ≤ u.group) (h3 : u.group ≤ 65535) (hS : (lineB u).length ≤ 140737488355328) :
    Calls Tryz.prog 27 #[.agg (userC u)] w fun e w' => e = .returned (.string ⟨(lineB u).toArray⟩) ∧ Below w.heap.size w w' := by
  have hb0 : Below w.heap.size w (w.alloc (.cells (userC u) 29)) := (Below.refl _ _).alloc (Nat.le_refl _) _
  have hu0 : UC (w.alloc (.cells (userC u) 29)) w.heap.size 0 u := box_six (u := 29) (Below.refl _ _)
  have KP : ∀ W', Below (w.alloc (.cells (userC u) 29)).heap.size (w.alloc (.cells (userC u) 29)) W' → (Below (w.alloc (.cells (userC u) 29)).heap.size (w.alloc (.cells (userC u) 29)) W' ∧ W'.cell? ⟨w.heap.size, 0, none⟩ = some (.string u.name) ∧ W'.cell? ⟨w.heap.size, 1, none⟩ = some (.string u.pass) ∧ W'.cell? ⟨w.heap.size, 2, none⟩ = some (.int .i64 u.id) ∧ W'.cell? ⟨w.heap.size, 3, none⟩ = some (.int .i64 u.group) ∧ W'.cell? ⟨w.heap.size, 4, none⟩ = some (.string u.home) ∧ W'.cell? ⟨w.heap.size, 5, none⟩ = some (.string u.shell)) := fun W' hW' => by
    have h := hu0.below hW'
    exact ⟨hW', h.g0, h.g1, h.g2, h.g3, h.g4, h.g5⟩
  have HI : ∀ W', Below (w.alloc (.cells (userC u) 29)).heap.size (w.alloc (.cells (userC u) 29)) W' → (Calls Tryz.prog 46 #[.int .i64 u.id] W' fun e w' => e = .returned (.string ⟨(decD u.id.toNat).toArray⟩) ∧ Below W'.heap.size W' w') ∧ (Calls Tryz.prog 46 #[.int .i64 u.group] W' fun e w' => e = .returned (.string ⟨(decD u.group.toNat).toArray⟩) ∧ Below W'.heap.size W' w') := fun W' hW' => by
    have h := (hW.below hb0).below hW'
    exact ⟨itoa_any _ h0 h1 _ h, itoa_any _ h2 h3 _ h⟩
  have HJ : ∀ W' : World, Calls Tryz.prog 45 #[.slice (some ⟨W'.heap.size, 0, none⟩) 6 6, .string ⟨#[58]⟩] (W'.alloc (.cells #[.string u.name, .string u.pass, .string ⟨(decD u.id.toNat).toArray⟩, .string ⟨(decD u.group.toNat).toArray⟩, .string u.home, .string u.shell] 9)) fun e w' => e = .returned (.string ⟨(lineB u).toArray⟩) ∧ Below (W'.alloc (.cells #[.string u.name, .string u.pass, .string ⟨(decD u.id.toNat).toArray⟩, .string ⟨(decD u.group.toNat).toArray⟩, .string u.home, .string u.shell] 9)).heap.size (W'.alloc (.cells #[.string u.name, .string u.pass, .string ⟨(decD u.id.toNat).toArray⟩, .string ⟨(decD u.group.toNat).toArray⟩, .string u.home, .string u.shell] 9)) w' := fun W' => by
    have h := Tryz.strings_Join W'.heap.size 0 6 (six u) ⟨#[58]⟩ (W'.alloc (.cells ((six u).map Value.string).toArray 9)) (fun j x hx => by
      rw [Nat.zero_add, heap_cell (at_new W' _) j]
      simp [hx]) (by simp) (by simp [six]) (by simp [six]) (by show (Lib.join _ [58]).length ≤ _; rw [join_six]; exact hS)
    have e : Lib.join ((six u).map (·.data.toList)) (⟨#[58]⟩ : ByteArray).data.toList = lineB u := join_six u
    rw [e] at h
    exact h
  have HB0 := Lib.hid hb0
  have HLE := Lib.hid hb0.size
  obtain ⟨c0, c1, c2, c3, c4, c5⟩ := hu0.at0
  clear hu0 hb0 hS hW
  obtain ⟨D1, hD1⟩ : ∃ D1 : ByteArray, ⟨(decD u.id.toNat).toArray⟩ = D1 := ⟨_, rfl⟩
  obtain ⟨D2, hD2⟩ : ∃ D2 : ByteArray, ⟨(decD u.group.toNat).toArray⟩ = D2 := ⟨_, rfl⟩
  simp only [hD1, hD2] at HI HJ
  clear hD1 hD2
  obtain ⟨R, hR⟩ : ∃ R : ByteArray, ⟨(lineB u).toArray⟩ = R := ⟨_, rfl⟩
  rw [hR]
  simp only [hR] at HJ
  clear hR
  unfold userC at *
  go_enter Tryz.func27, Tryz.ntmps27
  go_upto_region 1 with fail
  generalize w.alloc (.cells #[.string u.name, .string u.pass, .int .i64 u.id, .int .i64 u.group, .string u.home, .string u.shell] 29) = W0 at *
  generalize hn0 : w.heap.size = n0 at *
  go_region_held3 (fun W' => Below W0.heap.size W0 W' ∧ W'.cell? ⟨n0, 0, none⟩ = some (.string u.name) ∧ W'.cell? ⟨n0, 1, none⟩ = some (.string u.pass) ∧ W'.cell? ⟨n0, 2, none⟩ = some (.int .i64 u.id) ∧ W'.cell? ⟨n0, 3, none⟩ = some (.int .i64 u.group) ∧ W'.cell? ⟨n0, 4, none⟩ = some (.string u.home) ∧ W'.cell? ⟨n0, 5, none⟩ = some (.string u.shell))
    (first
      | exact KP _ (Below.refl _ _).drew
      | exact KP _ (Below.refl _ _)
      | exact KP _ (drewN_below (Below.refl _ _) _)
      | exact KP _ hbz
      | exact KP _ hbz.drew
      | exact KP _ (drewN_below hbz _)
      | exact KP _ ((‹Below W0.heap.size W0 _ ∧ _›).1.alloc (‹Below W0.heap.size W0 _ ∧ _›).1.size _)
      | exact KP _ (‹Below W0.heap.size W0 _ ∧ _›).1)
    (first
      | (go_at_call 46; refine ((HI _ (‹Below W0.heap.size W0 _ ∧ _›).1).1).mono ?_; rintro e w1 ⟨rfl, hb1⟩; have hbz : Below W0.heap.size W0 w1 := (‹Below W0.heap.size W0 _ ∧ _›).1.trans (hb1.mono (‹Below W0.heap.size W0 _ ∧ _›).1.size))
      | (go_at_call 46; refine ((HI _ (‹Below W0.heap.size W0 _ ∧ _›).1).2).mono ?_; rintro e w1 ⟨rfl, hb1⟩; have hbz : Below W0.heap.size W0 w1 := (‹Below W0.heap.size W0 _ ∧ _›).1.trans (hb1.mono (‹Below W0.heap.size W0 _ ∧ _›).1.size))
      | (go_at_call 45; refine (HJ _).mono ?_; rintro e w1 ⟨rfl, hb1⟩; have hbz : Below W0.heap.size W0 w1 := ((‹Below W0.heap.size W0 _ ∧ _›).1).trans (hb1.mono (‹Below W0.heap.size W0 _ ∧ _›).1.size)))
  have HB := Lib.hid (HB0.out.trans (hbz.mono HLE.out))
  clear hb1 hbz KP HI HJ
  go_wp2
  go_ret
  exact ⟨rfl, by rw [hn0]; exact HB.out⟩
end Go.Proofs.YtmfbmjnoepcigaaGreatDoor
