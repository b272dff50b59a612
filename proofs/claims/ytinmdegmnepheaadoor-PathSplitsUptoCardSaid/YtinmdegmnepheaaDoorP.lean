import Derived.Test.YtinmdegmnepheaaDoorO
namespace Go.Proofs.YtinmdegmnepheaaDoor
open Go.RowKit

/-- The names of a path that a call made: its struct lies in block n3, its row in a block of its own. -/
structure QI (B0 : Nat) (W1 : World) (n3 : Nat) (X3 : Obj) (a : Option Addr) (n : Nat) (W : World) : Prop where
  b : Below B0 W1 W
  p : W.heap[n3]? = some X3
  r : n = 0 ∨ ∃ g cs, a = some ⟨g, 0, none⟩ ∧ B0 ≤ g ∧ g ≠ n3 ∧ W.heap[g]? = some (.cells cs 9 (0, 0)) ∧ n ≤ cs.size

theorem cells_of_own {w : World} {base n : Nat} {a : Option Addr} {c : Nat} {xs : List Value} (h : w.ownsRow base 9 1 (.slice a n c) n xs) : n = 0 ∨ ∃ g cs, a = some ⟨g, 0, none⟩ ∧ base ≤ g ∧ w.heap[g]? = some (.cells cs 9 (0, 0)) ∧ n ≤ cs.size := by
  rcases h.2 with ⟨_, h0⟩ | ⟨g, cap, cur, he, hb, hh, hn, hc, hs, ht⟩
  · exact .inl h0
  · simp only [Value.slice.injEq] at he
    refine .inr ⟨g, cur, he.1, hb, hh, ?_⟩
    have := congrArg List.length ht
    have h1 := h.1
    rw [List.length_take] at this
    simp at this
    omega

theorem split_len {b : Bytes} {abs dir : Bool} {L : List Bytes} {err : Int} (h : splitS b = (abs, dir, L, err)) : L.length ≤ 129 := by
  unfold splitS at h
  split at h
  · simp only [Prod.mk.injEq] at h; rw [← h.2.2.1]; simp
  · split at h
    · simp only [Prod.mk.injEq] at h; rw [← h.2.2.1]; simp
    · rename_i hn
      split at h
      · simp only [Prod.mk.injEq] at h; rw [← h.2.2.1]; simp
      · simp only [Prod.mk.injEq] at h
        rw [← h.2.2.1]
        refine Nat.le_trans (List.length_filter_le _ _) ?_
        have h2 := partsA_len b []
        have h3 : ¬ 128 < b.length := fun h => hn (.inl h)
        unfold parts
        omega

set_option maxHeartbeats 2000000 in
theorem splits_law (s : ByteArray) (w : World) (hs : s.size ≤ 1048576) :
    Calls Tryd.prog 3 #[.string s] w fun e w' => e = .returned (.bool true) ∧ Below w.heap.size w w' := by
  go_enter Tryd.func3, Tryd.ntmps3
  go_wp2_with fail
  refine (shown_any w).mono ?_
  rintro e w1 ⟨rfl, hb⟩
  have HB := Lib.hid hb
  clear hb
  go_wp2_with fail
  refine (rsplit_any _ _ hs).mono ?_
  rintro e w2 ⟨abs, dir, v, l, err, rfl, ho, hb2, hsp⟩
  have HB2 := Lib.hid (HB.out.trans (hb2.mono HB.out.size))
  have HSP := Lib.hid hsp
  have hll : l.length ≤ 1000000 := by
    have := split_len hsp
    rw [List.length_map] at this; omega
  obtain ⟨a, cap, rfl, hcells⟩ := Sl.of_own ho
  have HO := Lib.hid ho
  clear ho hb2 hsp hcells
  obtain ⟨X2, hX2⟩ : ∃ X, Obj.cells #[.bool abs, .slice a l.length cap, .bool dir] 25 = X := ⟨_, rfl⟩
  go_wp2
  have hW2 : (w2.alloc X2).heap[w2.heap.size]? = some (.cells #[.bool abs, .slice a l.length cap, .bool dir] 25 (0, 0)) := by rw [← hX2]; exact at_new _ _
  have hWo : (w2.alloc X2).ownsRow w1.heap.size 9 1 (.slice a l.length cap) l.length (l.map .string) := HO.out.alloc X2
  have hWz : (w2.alloc X2).heap.size = w2.heap.size + 1 := by simp
  have hWb : Below w.heap.size w (w2.alloc X2) := HB2.out.alloc HB2.out.size X2
  generalize w2.alloc X2 = W2 at *
  have HW2 := Lib.hid hW2
  have HWo := Lib.hid hWo
  have HWz := Lib.hid hWz
  have HWb := Lib.hid hWb
  clear hW2 hWo hWz hWb hX2
  go_loopw [6, 7, 8, 9, 10] (fun t u1 u2 u3 u4 wr => ∃ k : Nat, k ≤ 2 ∧ t = .int .i64 k ∧ Below W2.heap.size W2 wr) (fun t u1 u2 u3 u4 _ => 2 - (intOf t).toNat)
  case atStart => exact ⟨0, by omega, rfl, Below.refl _ _⟩
  case round =>
    obtain ⟨k, hk, rfl, hbr⟩ := hrel
    have HBR := Lib.hid hbr
    clear hbr
    by_cases hlt : k < 2
    · have hlt1 : (k : Int) < 2 := by omega
      go_wp2_with fail
      refine (split_any _ _ (by omega)).mono ?_
      rintro e w3 ⟨abs3, dir3, v3, l3, err3, rfl, ho3, hb3, hsp3⟩
      replace hsp3 := HSP.out.symm.trans hsp3
      simp only [Prod.mk.injEq] at hsp3
      obtain ⟨rfl, rfl, hl3, rfl⟩ := hsp3
      obtain rfl : l = l3 := ba_inj hl3
      obtain ⟨a3, cap3, rfl, hc3⟩ := Sl.of_own ho3
      obtain ⟨X3, hX3⟩ : ∃ X, Obj.cells #[.bool abs, .slice a3 l.length cap3, .bool dir] 29 = X := ⟨_, rfl⟩
      have hp3 : (w3.alloc X3).heap[w3.heap.size]? = some (.cells #[.bool abs, .slice a3 l.length cap3, .bool dir] 29 (0, 0)) := by rw [← hX3]; exact at_new _ _
      have hlt3 : w3.heap.size < (w3.alloc X3).heap.size := by simp
      have hb4 : Below W2.heap.size W2 (w3.alloc X3) := (HBR.out.trans (hb3.mono HBR.out.size)).alloc (by have := HBR.out.size; have := hb3.size; omega) X3
      have ho4 : (w3.alloc X3).ownsRow wr.heap.size 9 1 (.slice a3 l.length cap3) l.length (l.map .string) := ho3.alloc X3
      have hrow := cells_of_own ho3
      have hq : QI W2.heap.size W2 w3.heap.size (.cells #[.bool abs, .slice a3 l.length cap3, .bool dir] 29 (0, 0)) a3 l.length (w3.alloc X3) := ⟨hb4, hp3, by
        rcases hrow with h | ⟨g, cs, h1, h2, h3, h4⟩
        · exact .inl h
        · have hg : g < w3.heap.size := by
            rcases Nat.lt_or_ge g w3.heap.size with h | h
            · exact h
            · rw [Array.getElem?_eq_none h] at h3; cases h3
          exact .inr ⟨g, cs, h1, by have := HBR.out.size; omega, by omega, by rw [Below.heap_alloc _ _ _ hg]; exact h3, h4⟩⟩
      have hW : W2.heap[w2.heap.size]? = some (.cells #[.bool abs, .slice a l.length cap, .bool dir] 25 (0, 0)) := HW2.out
      have hwz := HWz.out
      have hW4 : (w3.alloc X3).heap[w2.heap.size]? = some (.cells #[.bool abs, .slice a l.length cap, .bool dir] 25 (0, 0)) := by rw [hb4.block w2.heap.size (by omega)]; exact hW
      have HOL := Lib.hid (own_below HWo.out hb4)
      have HO4 := Lib.hid ho4
      have j1 : (w3.alloc X3).cell? ⟨w3.heap.size, 1, none⟩ = some (.slice a3 l.length cap3) := heap_cell hp3 1
      have j2 : (w3.alloc X3).cell? ⟨w2.heap.size, 1, none⟩ = some (.slice a l.length cap) := heap_cell hW4 1
      clear hl3 hc3 ho3 hb3 hb4 ho4 hrow hW
      go_wp2_with fail
      generalize w3.alloc X3 = W4 at *
      refine (same_eq _ _ _ l (sl_n HO4.out rfl rfl) (sl_n HOL.out rfl rfl) hll).mono ?_
      rintro e w5 ⟨rfl, k5, rfl⟩
      have d0 : ∀ z, (W4.drewN z).cell? ⟨w3.heap.size, 0, none⟩ = some (.bool abs) := fun z => heap_cell (w := W4.drewN z) hp3 0
      have d1 : ∀ z, (W4.drewN z).cell? ⟨w3.heap.size, 2, none⟩ = some (.bool dir) := fun z => heap_cell (w := W4.drewN z) hp3 2
      have d2 : ∀ z, (W4.drewN z).cell? ⟨w2.heap.size, 0, none⟩ = some (.bool abs) := fun z => heap_cell (w := W4.drewN z) hW4 0
      have d3 : ∀ z, (W4.drewN z).cell? ⟨w2.heap.size, 2, none⟩ = some (.bool dir) := fun z => heap_cell (w := W4.drewN z) hW4 2
      have HQ := Lib.hid hq
      clear hp3 hW4 hq
      clear j1 j2
      go_wp2
      go_loopw [10] (fun t wx => ∃ i : Nat, i ≤ l.length ∧ t = .int .i64 i ∧ QI W2.heap.size W2 w3.heap.size (.cells #[.bool abs, .slice a3 l.length cap3, .bool dir] 29 (0, 0)) a3 l.length wx) (fun t _ => l.length - (intOf t).toNat)
      case atStart => exact ⟨0, Nat.zero_le _, rfl, ⟨belowN HQ.out.b _, HQ.out.p, HQ.out.r⟩⟩
      case round =>
        obtain ⟨i, hi, rfl, hq⟩ := hrel
        have HQ1 := Lib.hid hq
        clear hq
        have j1 := heap_cell HQ1.out.p 1
        by_cases hil : i < l.length
        · have hil1 : (i : Int) < l.length := by omega
          rcases HQ1.out.r with h0 | ⟨g, cs, rfl, hg1, hg2, hg3, hg4⟩
          · omega
          · have hics : i < cs.size := by omega
            have j2 := heap_cell hg3 i
            rw [Array.getElem?_eq_getElem hics] at j2
            have j3 := heap_free hg3 i
            have HG1 := Lib.hid hg1
            have HG2 := Lib.hid hg2
            have HG3 := Lib.hid hg3
            have HG4 := Lib.hid hg4
            clear hg1 hg2 hg3 hg4
            go_wp2
            go_roundw
            case rel => exact ⟨i + 1, by omega, by go_num, ⟨HQ1.out.b.setCell HG1.out _, set_other HQ1.out.p _ (fun e => HG2.out e.symm), .inr ⟨g, _, rfl, HG1.out, HG2.out, set_same HG3.out _, by rw [Array.size_setIfInBounds]; exact HG4.out⟩⟩⟩
            case measure => simp [intOf]; omega
        · have hil1 : ¬ (i : Int) < l.length := by omega
          go_wp2
          go_roundw
          case rel => exact ⟨k + 1, by omega, by go_num, HQ1.out.b⟩
          case measure => simp [intOf]; omega
    · have hlt1 : ¬ (k : Int) < 2 := by omega
      go_wp2
      go_ret
      exact ⟨rfl, HWb.out.trans (HBR.out.mono HWb.out.size)⟩
end Go.Proofs.YtinmdegmnepheaaDoor
