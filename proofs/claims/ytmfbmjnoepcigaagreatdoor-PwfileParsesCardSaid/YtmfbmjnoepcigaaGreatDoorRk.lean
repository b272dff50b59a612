/- The document's user. -/
import Derived.Test.YtmfbmjnoepcigaaGreatDoorRi
import Derived.Test.YtmfbmjnoepcigaaGreatDoorRf
import Derived.Test.YtmfbmjnoepcigaaGreatDoorRl
import Derived.Test.YtmfbmjnoepcigaaGreatDoorRp
import Derived.Test.YtmfbmjnoepcigaaGreatDoorM
namespace Go.Proofs.YtmfbmjnoepcigaaGreatDoor
open Go.RowKit

theorem leave20 {T : Array Value} {W : World} (n0 : Nat) {f : UserS} {b : Bool} (hT4 : T[2]? = some (.pointer (some ⟨n0, 0, none⟩))) (hT5 : T[3]? = some (.bool b))
    (hres : W.heap[n0]? = some (.cells (userC f) 29 (0, 0))) {R : Ending → World → Prop} (hR : R (.returned (.tuple #[.agg (userC f), .bool b])) W) :
    bodyPost Tryz.prog Tryz.f20 R Exit.ret { tmps := T, defers := [] } W := by
  have c0 : W.cell? ⟨n0, 0, none⟩ = some (.string f.name) := heap_cell hres 0
  have c1 : W.cell? ⟨n0, 1, none⟩ = some (.string f.pass) := heap_cell hres 1
  have c2 : W.cell? ⟨n0, 2, none⟩ = some (.int .i64 f.id) := heap_cell hres 2
  have c3 : W.cell? ⟨n0, 3, none⟩ = some (.int .i64 f.group) := heap_cell hres 3
  have c4 : W.cell? ⟨n0, 4, none⟩ = some (.string f.home) := heap_cell hres 4
  have c5 : W.cell? ⟨n0, 5, none⟩ = some (.string f.shell) := heap_cell hres 5
  exact bodyPost_ret (v := .tuple #[.agg (userC f), .bool b]) (by simp [results, Tryz.results20, go_sem, hT4, hT5, c0, c1, c2, c3, c4, c5, userC]) rfl hR
theorem info9z : (Tryz.prog.info? 9).map (fun i => (i.zero, i.size, i.bytes)) = some (some (.string ByteArray.empty), 1, 16) := by kernel_rfl
theorem own_six {w : World} {B : Nat} {v : Value} {x0 x1 x2 x3 x4 x5 : ByteArray} (h : w.ownsRow B 9 1 v 6 [.string x0, .string x1, .string x2, .string x3, .string x4, .string x5]) :
    ∃ g c, v = .slice (some ⟨g, 0, none⟩) 6 c ∧ w.cell? ⟨g, 0, none⟩ = some (.string x0) ∧ w.cell? ⟨g, 1, none⟩ = some (.string x1) ∧ w.cell? ⟨g, 2, none⟩ = some (.string x2) ∧ w.cell? ⟨g, 3, none⟩ = some (.string x3) ∧ w.cell? ⟨g, 4, none⟩ = some (.string x4) ∧ w.cell? ⟨g, 5, none⟩ = some (.string x5) := by
  have hS : Pp.Sl w v [x0, x1, x2, x3, x4, x5] := Pp.Sl.of_own h
  obtain ⟨_, ⟨rfl, h0⟩ | ⟨g, cap, cur, rfl, _, _, _, _, _, _⟩⟩ := h
  · cases h0
  · obtain ⟨a, c, he, hc⟩ := hS
    simp only [Value.slice.injEq] at he
    obtain ⟨rfl, _, rfl⟩ := he
    refine ⟨g, cap, rfl, ?_, ?_, ?_, ?_, ?_, ?_⟩
    · obtain ⟨b, o, e, q⟩ := hc 0 (by simp)
      simp only [Option.some.injEq, Addr.mk.injEq, and_true] at e
      obtain ⟨rfl, rfl⟩ := e
      exact q
    · obtain ⟨b, o, e, q⟩ := hc 1 (by simp)
      simp only [Option.some.injEq, Addr.mk.injEq, and_true] at e
      obtain ⟨rfl, rfl⟩ := e
      exact q
    · obtain ⟨b, o, e, q⟩ := hc 2 (by simp)
      simp only [Option.some.injEq, Addr.mk.injEq, and_true] at e
      obtain ⟨rfl, rfl⟩ := e
      exact q
    · obtain ⟨b, o, e, q⟩ := hc 3 (by simp)
      simp only [Option.some.injEq, Addr.mk.injEq, and_true] at e
      obtain ⟨rfl, rfl⟩ := e
      exact q
    · obtain ⟨b, o, e, q⟩ := hc 4 (by simp)
      simp only [Option.some.injEq, Addr.mk.injEq, and_true] at e
      obtain ⟨rfl, rfl⟩ := e
      exact q
    · obtain ⟨b, o, e, q⟩ := hc 5 (by simp)
      simp only [Option.some.injEq, Addr.mk.injEq, and_true] at e
      obtain ⟨rfl, rfl⟩ := e
      exact q
set_option maxHeartbeats 4000000 in
set_option maxRecDepth 100000 in
theorem ruser_any (s : ByteArray) (w : World) (hs : s.size ≤ 4096) : Calls Tryz.prog 20 #[.string s] w (ReadP s w) := by
  obtain ⟨i0, hi, hz0, hz1, hz2⟩ := info_parts info9z
  have hs1 : (s.size : Int) ≤ 4096 := by omega
  have HB0 := Lib.hid ((Below.refl w.heap.size w).alloc (Nat.le_refl _) (.cells (userC zeroU) 29))
  have HH0 := Lib.hid (at_new w (.cells (userC zeroU) 29))
  obtain ⟨W0, hW0⟩ : ∃ W0, W0 = w.alloc (.cells (userC zeroU) 29) := ⟨_, rfl⟩
  rw [← hW0] at HB0 HH0
  have HW0 := Lib.hid hW0
  clear hW0
  go_enter Tryz.func20, Tryz.ntmps20
  go_wp2
  go_loopw [4, 5, 6] (fun o f i wr => ∃ (k f' : Nat) (l : List ByteArray), i = .int .i64 k ∧ f = .int .i64 f' ∧ l.length ≤ k ∧ Hid (Below W0.heap.size W0 wr ∧ wr.ownsRow W0.heap.size 9 1 o l.length (l.map .string)) ∧ ((k ≤ s.size ∧ f' ≤ k ∧ Hid (SplAt s k f' l)) ∨ (k = s.size + 1 ∧ Hid (splitD 58 [] s.data.toList = l.map (fun x => x.data.toList))))) (fun _ _ i _ => s.size + 1 - (intOf i).toNat)
  case atStart => exact ⟨0, 0, [], rfl, rfl, Nat.zero_le _, Lib.hid ⟨by rw [HW0.out]; exact Below.refl _ _, ⟨rfl, .inl ⟨rfl, rfl⟩⟩⟩, .inl ⟨Nat.zero_le _, Nat.le_refl _, Lib.hid (SplAt.start s)⟩⟩
  case round =>
    obtain ⟨k, f, l, rfl, rfl, hl, HR, hr⟩ := hrel
    rcases hr with ⟨hk, hf, HP⟩ | ⟨hk, HP⟩
    · have hk1 : (k : Int) ≤ s.size := by omega
      by_cases hlt : k < s.size
      · have hke : ((k : Int) == s.size) = false := by
          cases hh : ((k : Int) == s.size) with
          | false => rfl
          | true => simp at hh; omega
        by_cases hc : s[k] = 58
        · have hcb : ((s[k].toNat : Int) == 58) = true := by rw [hc]; rfl
          have HC := Lib.hid hc
          clear hc
          have hf1 : (f : Int) ≤ k := by omega
          go_wp2_with (at_builtin; refine wpList_append_own _ rfl _ _ 56 rfl W0.heap.size 9 i0 (.string ByteArray.empty) 1 16 Tryz.underlying56 hi hz0 hz1 hz2 rfl (by decide) _ _ _ rfl (HR.out.2.alloc _) ⟨wr.heap.size, 0, none⟩ 1 1 [.string (s.extract f k)] rfl rfl (cell_one_new _ _ _) (by simp [Value.oneCell']) (by unfold maxLen; omega) (by omega) (by have := HR.out.1.size; simp; omega) ?_; intro v' w1 hown' hgrow _)
          have HB1 := Lib.hid (below_grown (HR.out.1.alloc HR.out.1.size _) (Nat.le_refl _) hgrow (own_ge HR.out.2))
          have HO1 := Lib.hid hown'
          clear hgrow hown'
          go_wp2
          go_roundw
          case rel => exact ⟨k + 1, k + 1, l ++ [s.extract f k], by go_num, by go_num, by simp; omega, Lib.hid ⟨HB1.out, by simpa using HO1.out⟩, .inl ⟨by omega, Nat.le_refl _, Lib.hid (HP.out.add hlt HC.out)⟩⟩
          case measure => simp [intOf]; omega
        · have hcb : ((s[k].toNat : Int) == 58) = false := by
            simp; exact fun h => hc (UInt8.toNat_inj.1 (by have e : (58 : UInt8).toNat = 58 := rfl; omega))
          have HC := Lib.hid hc
          clear hc
          go_wp2
          go_roundw
          case rel => exact ⟨k + 1, f, l, by go_num, rfl, by omega, HR, .inl ⟨by omega, by omega, Lib.hid (HP.out.go hlt HC.out)⟩⟩
          case measure => simp [intOf]; omega
      · obtain rfl : k = s.size := by omega
        have hke : ((s.size : Int) == s.size) = true := by simp
        have hf1 : (f : Int) ≤ s.size := by omega
        go_wp2_with (at_builtin; refine wpList_append_own _ rfl _ _ 56 rfl W0.heap.size 9 i0 (.string ByteArray.empty) 1 16 Tryz.underlying56 hi hz0 hz1 hz2 rfl (by decide) _ _ _ rfl (HR.out.2.alloc _) ⟨wr.heap.size, 0, none⟩ 1 1 [.string (s.extract f s.size)] rfl rfl (cell_one_new _ _ _) (by simp [Value.oneCell']) (by unfold maxLen; omega) (by omega) (by have := HR.out.1.size; simp; omega) ?_; intro v' w1 hown' hgrow _)
        have HB1 := Lib.hid (below_grown (HR.out.1.alloc HR.out.1.size _) (Nat.le_refl _) hgrow (own_ge HR.out.2))
        have HO1 := Lib.hid hown'
        clear hgrow hown'
        go_wp2
        go_roundw
        case rel => exact ⟨s.size + 1, s.size + 1, l ++ [s.extract f s.size], by go_num, by go_num, by simp; omega, Lib.hid ⟨HB1.out, by simpa using HO1.out⟩, .inr ⟨rfl, Lib.hid HP.out.end⟩⟩
        case measure => simp [intOf]
    · subst hk
      have hk1 : ¬ ((s.size + 1 : Nat) : Int) ≤ s.size := by omega
      have HSL := Lib.hid (Pp.Sl.of_own HR.out.2)
      have HH := Lib.hid (below_heap HR.out.1 HH0.out)
      have HBw := Lib.hid (HB0.out.trans (HR.out.1.mono HB0.out.size))
      have HLE := Lib.hid (piece_le HP.out)
      by_cases h6 : l.length = 6
      · obtain ⟨x0, x1, x2, x3, x4, x5, rfl⟩ := six_of h6
        have hsix := own_six HR.out.2
        obtain ⟨g, gc, rfl, q0, q1, q2, q3, q4, q5⟩ := hsix
        have HI2 := fun W => rnum_any x2 W
        have HI3 := fun W => rnum_any x3 W
        have HU := Lib.hid (fun u hu => user_of (u := u) HP.out hu)
        have KP : ∀ W', Below wr.heap.size wr W' → (Below wr.heap.size wr W' ∧ W'.cell? ⟨g, 0, none⟩ = some (.string x0) ∧ W'.cell? ⟨g, 1, none⟩ = some (.string x1) ∧ W'.cell? ⟨g, 2, none⟩ = some (.string x2) ∧ W'.cell? ⟨g, 3, none⟩ = some (.string x3) ∧ W'.cell? ⟨g, 4, none⟩ = some (.string x4) ∧ W'.cell? ⟨g, 5, none⟩ = some (.string x5)) := fun W' h =>
          ⟨h, cell_below q0 h, cell_below q1 h, cell_below q2 h, cell_below q3 h, cell_below q4 h, cell_below q5 h⟩
        generalize numZ x2.data.toList = N2 at *
        generalize numZ x3.data.toList = N3 at *
        have l0 := HLE.out x0 (by simp)
        have l1 := HLE.out x1 (by simp)
        have l4 := HLE.out x4 (by simp)
        have l5 := HLE.out x5 (by simp)
        have HMY : Hid (∀ W, Calls Tryz.prog 25 #[.agg (userC ⟨x0, x1, N2, N3, x4, x5⟩)] W fun e w' => e = .returned (.bool (mayB ⟨x0, x1, N2, N3, x4, x5⟩)) ∧ Below W.heap.size W w') := Lib.hid (fun W => rmay_any _ W ⟨by show x0.size ≤ _; omega, by show x1.size ≤ _; omega, by show x4.size ≤ _; omega, by show x5.size ≤ _; omega⟩)
        unfold userC at HMY
        clear h6 hl hk1 l0 l1 l4 l5 HLE
        go_upto_region 11 with fail
        refine wp_region_held_drew (S := (fun W' => Below wr.heap.size wr W' ∧ W'.cell? ⟨g, 0, none⟩ = some (.string x0) ∧ W'.cell? ⟨g, 1, none⟩ = some (.string x1) ∧ W'.cell? ⟨g, 2, none⟩ = some (.string x2) ∧ W'.cell? ⟨g, 3, none⟩ = some (.string x3) ∧ W'.cell? ⟨g, 4, none⟩ = some (.string x4) ∧ W'.cell? ⟨g, 5, none⟩ = some (.string x5))) (by kernel_rfl) (KP _ (Below.refl _ _).drew) (fun hHeld => ?_)
        refine wpAnyH_take (i := 0) (v := ?_) rfl (by kernel_rfl) (by kernel_rfl) (by kernel_rfl) (fun _ _ _ h => h) (Or.inl ⟨by rfl, ?_⟩) (by assumption) ?_
        rotate_left
        · (intro W hSw; (try dsimp only at hSw); go_simp; try with_reducible rfl)
        try simp only [List.getElem_toArray, List.getElem_cons_zero, List.getElem_cons_succ, Act.put, List.setIfInBounds_toArray, List.set_cons_zero, List.set_cons_succ]
        refine wpAnyH_take (i := 1) (v := ?_) rfl (by kernel_rfl) (by kernel_rfl) (by kernel_rfl) (fun _ _ _ h => h) (Or.inl ⟨by rfl, ?_⟩) (by assumption) ?_
        rotate_left
        · (intro W hSw; (try dsimp only at hSw); go_simp; try with_reducible rfl)
        try simp only [List.getElem_toArray, List.getElem_cons_zero, List.getElem_cons_succ, Act.put, List.setIfInBounds_toArray, List.set_cons_zero, List.set_cons_succ]
        refine wpAnyH_take (i := 2) (v := ?_) rfl (by kernel_rfl) (by kernel_rfl) (by kernel_rfl) (fun _ _ _ h => h) (Or.inl ⟨by rfl, ?_⟩) (by assumption) ?_
        rotate_left
        · (intro W hSw; (try dsimp only at hSw); go_simp; try with_reducible rfl)
        try simp only [List.getElem_toArray, List.getElem_cons_zero, List.getElem_cons_succ, Act.put, List.setIfInBounds_toArray, List.set_cons_zero, List.set_cons_succ]
        refine wpAnyH_take (i := 3) (v := ?_) rfl (by kernel_rfl) (by kernel_rfl) (by kernel_rfl) (fun _ _ _ h => h) (Or.inl ⟨by rfl, ?_⟩) (by assumption) ?_
        rotate_left
        · (intro W hSw; (try dsimp only at hSw); go_simp; try with_reducible rfl)
        try simp only [List.getElem_toArray, List.getElem_cons_zero, List.getElem_cons_succ, Act.put, List.setIfInBounds_toArray, List.set_cons_zero, List.set_cons_succ]
        refine wpAnyH_take (i := 4) (v := ?_) rfl (by kernel_rfl) (by kernel_rfl) (by kernel_rfl) (fun _ _ _ h => h) (Or.inl ⟨by rfl, ?_⟩) (by assumption) ?_
        rotate_left
        · (intro W hSw; (try dsimp only at hSw); go_simp; try with_reducible rfl)
        try simp only [List.getElem_toArray, List.getElem_cons_zero, List.getElem_cons_succ, Act.put, List.setIfInBounds_toArray, List.set_cons_zero, List.set_cons_succ]
        refine wpAnyH_take (i := 5) (v := ?_) rfl (by kernel_rfl) (by kernel_rfl) (by kernel_rfl) (fun _ _ _ h => h) (Or.inl ⟨by rfl, ?_⟩) (by assumption) ?_
        rotate_left
        · (intro W hSw; (try dsimp only at hSw); go_simp; try with_reducible rfl)
        try simp only [List.getElem_toArray, List.getElem_cons_zero, List.getElem_cons_succ, Act.put, List.setIfInBounds_toArray, List.set_cons_zero, List.set_cons_succ]
        refine wpAnyH_take (i := 6) (v := ?_) rfl (by kernel_rfl) (by kernel_rfl) (by kernel_rfl) (fun _ _ _ h => h) (Or.inl ⟨by rfl, ?_⟩) (by assumption) ?_
        rotate_left
        · (intro W hSw; (try dsimp only at hSw); go_simp; try with_reducible rfl)
        try simp only [List.getElem_toArray, List.getElem_cons_zero, List.getElem_cons_succ, Act.put, List.setIfInBounds_toArray, List.set_cons_zero, List.set_cons_succ]
        refine wpAnyH_take (i := 7) (v := ?_) rfl (by kernel_rfl) (by kernel_rfl) (by kernel_rfl) (fun _ _ _ h => h) (Or.inl ⟨by rfl, ?_⟩) (by assumption) ?_
        rotate_left
        · (intro W hSw; (try dsimp only at hSw); go_simp; try with_reducible rfl)
        try simp only [List.getElem_toArray, List.getElem_cons_zero, List.getElem_cons_succ, Act.put, List.setIfInBounds_toArray, List.set_cons_zero, List.set_cons_succ]
        refine wpAnyH_take (i := 8) (v := ?_) rfl (by kernel_rfl) (by kernel_rfl) (by kernel_rfl) (fun _ _ _ h => h) (Or.inl ⟨by rfl, ?_⟩) (by assumption) ?_
        rotate_left
        · (intro W hSw; (try dsimp only at hSw); go_simp; try with_reducible rfl)
        try simp only [List.getElem_toArray, List.getElem_cons_zero, List.getElem_cons_succ, Act.put, List.setIfInBounds_toArray, List.set_cons_zero, List.set_cons_succ]
        refine wpAnyH_take (i := 10) (v := ?_) rfl (by kernel_rfl) (by kernel_rfl) (by kernel_rfl) (fun _ _ _ h => h) (Or.inl ⟨by rfl, ?_⟩) (by assumption) ?_
        rotate_left
        · (intro W hSw; (try dsimp only at hSw); go_simp; try with_reducible rfl)
        try simp only [List.getElem_toArray, List.getElem_cons_zero, List.getElem_cons_succ, Act.put, List.setIfInBounds_toArray, List.set_cons_zero, List.set_cons_succ]
        refine wpAnyH_take (i := 11) (v := ?_) rfl (by kernel_rfl) (by kernel_rfl) (by kernel_rfl) (fun _ _ _ h => h) (Or.inl ⟨by rfl, ?_⟩) (by assumption) ?_
        rotate_left
        · (intro W hSw; (try dsimp only at hSw); go_simp; try with_reducible rfl)
        try simp only [List.getElem_toArray, List.getElem_cons_zero, List.getElem_cons_succ, Act.put, List.setIfInBounds_toArray, List.set_cons_zero, List.set_cons_succ]
        refine wpAnyH_take (i := 12) (v := ?_) rfl (by kernel_rfl) (by kernel_rfl) (by kernel_rfl) (fun _ _ _ h => h) (Or.inl ⟨by rfl, ?_⟩) (by assumption) ?_
        rotate_left
        · (intro W hSw; (try dsimp only at hSw); go_simp; try with_reducible rfl)
        try simp only [List.getElem_toArray, List.getElem_cons_zero, List.getElem_cons_succ, Act.put, List.setIfInBounds_toArray, List.set_cons_zero, List.set_cons_succ]
        refine wpAnyH_take (i := 14) (v := ?_) rfl (by kernel_rfl) (by kernel_rfl) (by kernel_rfl) (fun _ _ _ h => h) (Or.inl ⟨by rfl, ?_⟩) (by assumption) ?_
        rotate_left
        · (intro W hSw; (try dsimp only at hSw); go_simp; try with_reducible rfl)
        try simp only [List.getElem_toArray, List.getElem_cons_zero, List.getElem_cons_succ, Act.put, List.setIfInBounds_toArray, List.set_cons_zero, List.set_cons_succ]
        refine wpAnyH_take (i := 15) (v := ?_) rfl (by kernel_rfl) (by kernel_rfl) (by kernel_rfl) (fun _ _ _ h => h) (Or.inl ⟨by rfl, ?_⟩) (by assumption) ?_
        rotate_left
        · (intro W hSw; (try dsimp only at hSw); go_simp; try with_reducible rfl)
        try simp only [List.getElem_toArray, List.getElem_cons_zero, List.getElem_cons_succ, Act.put, List.setIfInBounds_toArray, List.set_cons_zero, List.set_cons_succ]
        refine wpAnyH_take (i := 16) (v := ?_) rfl (by kernel_rfl) (by kernel_rfl) (by kernel_rfl) (fun _ _ _ h => h) (Or.inl ⟨by rfl, ?_⟩) (by assumption) ?_
        rotate_left
        · (intro W hSw; (try dsimp only at hSw); go_simp; try with_reducible rfl)
        try simp only [List.getElem_toArray, List.getElem_cons_zero, List.getElem_cons_succ, Act.put, List.setIfInBounds_toArray, List.set_cons_zero, List.set_cons_succ]
        refine wpAnyH_take (i := 17) (v := ?_) rfl (by kernel_rfl) (by kernel_rfl) (by kernel_rfl) (fun _ _ _ h => h) (Or.inl ⟨by rfl, ?_⟩) (by assumption) ?_
        rotate_left
        · (intro W hSw; (try dsimp only at hSw); go_simp; try with_reducible rfl)
        try simp only [List.getElem_toArray, List.getElem_cons_zero, List.getElem_cons_succ, Act.put, List.setIfInBounds_toArray, List.set_cons_zero, List.set_cons_succ]
        refine wpAnyH_take (i := 18) (v := ?_) rfl (by kernel_rfl) (by kernel_rfl) (by kernel_rfl) (fun _ _ _ h => h) (Or.inl ⟨by rfl, ?_⟩) (by assumption) ?_
        rotate_left
        · (intro W hSw; (try dsimp only at hSw); go_simp; try with_reducible rfl)
        try simp only [List.getElem_toArray, List.getElem_cons_zero, List.getElem_cons_succ, Act.put, List.setIfInBounds_toArray, List.set_cons_zero, List.set_cons_succ]
        refine wpAnyH_take (i := 19) (v := ?_) rfl (by kernel_rfl) (by kernel_rfl) (by kernel_rfl) (fun _ _ _ h => h) (Or.inl ⟨by rfl, ?_⟩) (by assumption) ?_
        rotate_left
        · (intro W hSw; (try dsimp only at hSw); go_simp; try with_reducible rfl)
        try simp only [List.getElem_toArray, List.getElem_cons_zero, List.getElem_cons_succ, Act.put, List.setIfInBounds_toArray, List.set_cons_zero, List.set_cons_succ]
        refine wpAnyH_ready (rs := [9, 21]) (by kernel_rfl) (by simp) ?_
        refine AllReadyH.cons rfl (fun K hK => ?_) (AllReadyH.cons rfl (fun K hK => ?_) AllReadyH.nil)
        · simp only [List.getElem_toArray, List.getElem_cons_zero, List.getElem_cons_succ]
          go_simp
          go_at_call 33
          refine (HI2 _).mono ?_
          rintro e w1 ⟨rfl, rfl⟩
          have hbz := hHeld.1
          refine hK.out _ _ ?_ (fun hHeld => ?_)
          · (try dsimp only); exact KP _ hbz
          clear hK K
          try simp only [List.getElem_toArray, List.getElem_cons_zero, List.getElem_cons_succ, Act.put, List.setIfInBounds_toArray, List.set_cons_zero, List.set_cons_succ]
          refine wpAnyH_ready (rs := [13, 21]) (by kernel_rfl) (by simp) ?_
          refine AllReadyH.cons rfl (fun K hK => ?_) (AllReadyH.cons rfl (fun K hK => ?_) AllReadyH.nil)
          · simp only [List.getElem_toArray, List.getElem_cons_zero, List.getElem_cons_succ]
            go_simp
            go_at_call 33
            refine (HI3 _).mono ?_
            rintro e w1 ⟨rfl, rfl⟩
            have hbz := hHeld.1
            refine hK.out _ _ ?_ (fun hHeld => ?_)
            · (try dsimp only); exact KP _ hbz
            clear hK K
            try simp only [List.getElem_toArray, List.getElem_cons_zero, List.getElem_cons_succ, Act.put, List.setIfInBounds_toArray, List.set_cons_zero, List.set_cons_succ]
            refine wpAnyH_take (i := 20) (v := ?_) rfl (by kernel_rfl) (by kernel_rfl) (by kernel_rfl) (fun _ _ _ h => h) (Or.inl ⟨by rfl, ?_⟩) (by assumption) ?_
            rotate_left
            · (intro W hSw; (try dsimp only at hSw); go_simp; try with_reducible rfl)
            try simp only [List.getElem_toArray, List.getElem_cons_zero, List.getElem_cons_succ, Act.put, List.setIfInBounds_toArray, List.set_cons_zero, List.set_cons_succ]
            refine wpAnyH_ready (rs := [21]) (by kernel_rfl) (by simp) ?_
            refine AllReadyH.cons rfl (fun K hK => ?_) AllReadyH.nil
            simp only [List.getElem_toArray, List.getElem_cons_zero, List.getElem_cons_succ]
            have hbz := hHeld.1
            have hba := hbz.alloc hbz.size (.cells (userC zeroU) 29)
            go_simp
            refine hK.out _ _ ?_ (fun hHeld => ?_)
            · (try dsimp only); exact KP _ hba
            clear hK K
            try simp only [List.getElem_toArray, List.getElem_cons_zero, List.getElem_cons_succ, Act.put, List.setIfInBounds_toArray, List.set_cons_zero, List.set_cons_succ]
            refine wpAnyH_ready (rs := [22]) (by kernel_rfl) (by simp) ?_
            refine AllReadyH.cons rfl (fun K hK => ?_) AllReadyH.nil
            simp only [List.getElem_toArray, List.getElem_cons_zero, List.getElem_cons_succ]
            obtain ⟨WX, hWX⟩ : ∃ WX, wr.alloc (.cells #[.string ⟨#[]⟩, .string ⟨#[]⟩, .int .i64 0, .int .i64 0, .string ⟨#[]⟩, .string ⟨#[]⟩] 29) = WX := ⟨_, rfl⟩
            have hhx : WX.heap[wr.heap.size]? = some (.cells (userC zeroU) 29 (0, 0)) := by rw [← hWX]; exact at_new _ _
            have hbx : Below wr.heap.size wr WX := by rw [← hWX]; exact (Below.refl _ _).alloc (Nat.le_refl _) _
            rw [hWX] at hHeld ⊢
            obtain ⟨⟨e0, e1, e2, e3, e4, e5⟩, ⟨z0, z1, z2, z3, z4, z5⟩⟩ := six_facts hhx
            go_simp
            obtain ⟨W6, hW6⟩ : ∃ W6, sixW WX wr.heap.size (.string x0) (.string x1) (.int .i64 N2) (.int .i64 N3) (.string x4) (.string x5) = W6 := ⟨_, rfl⟩
            have hbs : Below wr.heap.size wr W6 := by rw [← hW6]; exact sixW_below hbx (Nat.le_refl _) _ _ _ _ _ _
            have hat : W6.heap[wr.heap.size]? = some (.cells (userC ⟨x0, x1, N2, N3, x4, x5⟩) 29 (0, 0)) := by rw [← hW6]; exact sixW_at hhx ⟨x0, x1, N2, N3, x4, x5⟩
            unfold sixW at hW6
            rw [hW6]
            refine hK.out _ _ ?_ (fun hHeld => ?_)
            · (try dsimp only); exact KP _ hbs.drew
            clear hK K
            try simp only [List.getElem_toArray, List.getElem_cons_zero, List.getElem_cons_succ, Act.put, List.setIfInBounds_toArray, List.set_cons_zero, List.set_cons_succ]
            refine wpAnyH_done (by kernel_rfl) ?_ _
            have HB6 : Hid (Below wr.heap.size wr W6.drew) := Lib.hid hbs.drew
            have hat' : W6.drew.heap[wr.heap.size]? = some (.cells (userC ⟨x0, x1, N2, N3, x4, x5⟩) 29 (0, 0)) := hat
            generalize W6.drew = W7 at *
            clear hbx hbs hat hW6 hhx hWX e0 e1 e2 e3 e4 e5 z0 z1 z2 z3 z4 z5 HI2 HI3 KP q0 q1 q2 q3 q4 q5
            have HAT := Lib.hid hat'
            have HH7 := Lib.hid (below_heap HB6.out HH.out)
            have HBW := Lib.hid (HBw.out.trans (HB6.out.mono HBw.out.size))
            obtain ⟨⟨c0, c1, c2, c3, c4, c5⟩, _⟩ := six_facts hat'
            clear hat' HR HSL HB6 HH
            go_wp2_with fail
            refine (HMY.out _).mono ?_
            rintro e w7 ⟨rfl, hb⟩
            have HH8 := Lib.hid (below_heap hb HH7.out)
            have HB8 := Lib.hid (HBW.out.trans (hb.mono HBW.out.size))
            have HAT8 := Lib.hid (below_heap hb HAT.out)
            clear hb c0 c1 c2 c3 c4 c5 HH7 HBW HAT HMY
            obtain ⟨hu1, hu2, hu3⟩ := HU.out _ rfl
            cases hm : mayB ⟨x0, x1, N2, N3, x4, x5⟩ with
            | false =>
              have HN := Lib.hid (hu1 hm)
              obtain ⟨⟨e0, e1, e2, e3, e4, e5⟩, ⟨z0, z1, z2, z3, z4, z5⟩⟩ := six_facts HH8.out
              clear hu1 hu2 hu3 hm
              go_wp2
              exact leave20 w.heap.size rfl rfl (sixW_at HH8.out zeroU) ⟨_, false, rfl, sixW_below HB8.out (Nat.le_refl _) _ _ _ _ _ _, (fun h => by cases h), fun _ => HN.out⟩
            | true =>
              have hmp := mayP hm
              obtain ⟨n0, n1, n2, n3⟩ := line_parts (line_len hm)
              have HLC := Lib.hid (fun W => rline_any ⟨x0, x1, N2, N3, x4, x5⟩ W hmp.id0 hmp.id1 hmp.g0 hmp.g1 n0 n1 n2 n3)
              have HU2 := Lib.hid hu2
              have HU3 := Lib.hid (hu3 hm)
              clear hmp n0 n1 n2 n3 hu1 hu2 hu3 hm
              generalize (⟨(lineB ⟨x0, x1, N2, N3, x4, x5⟩).toArray⟩ : ByteArray) = R at *
              obtain ⟨⟨c0, c1, c2, c3, c4, c5⟩, _⟩ := six_facts HAT8.out
              go_wp2_with fail
              refine (HLC.out _).mono ?_
              rintro e w8 ⟨rfl, hb⟩
              have HH9 := Lib.hid (below_heap hb HH8.out)
              have HB9 := Lib.hid (HB8.out.trans (hb.mono HB8.out.size))
              have HAT9 := Lib.hid (below_heap hb HAT8.out)
              clear hb c0 c1 c2 c3 c4 c5 HH8 HB8 HAT8 HLC
              obtain ⟨⟨e0, e1, e2, e3, e4, e5⟩, ⟨z0, z1, z2, z3, z4, z5⟩⟩ := six_facts HH9.out
              obtain ⟨⟨c0, c1, c2, c3, c4, c5⟩, _⟩ := six_facts HAT9.out
              have heq : (R.toList == s.toList) = decide (R = s) := eq_text R s
              by_cases hrs : R = s
              · rw [decide_eq_true hrs] at heq
                have HY := Lib.hid (HU3.out hrs)
                clear hrs
                go_wp2
                exact leave20 w.heap.size rfl rfl (sixW_at HH9.out ⟨x0, x1, N2, N3, x4, x5⟩) ⟨_, true, rfl, sixW_below HB9.out (Nat.le_refl _) _ _ _ _ _ _, (fun _ => HY.out), fun h => by cases h⟩
              · rw [decide_eq_false hrs] at heq
                have HY := Lib.hid (HU2.out hrs)
                clear hrs
                go_wp2
                exact leave20 w.heap.size rfl rfl (sixW_at HH9.out zeroU) ⟨_, false, rfl, sixW_below HB9.out (Nat.le_refl _) _ _ _ _ _ _, (fun h => by cases h), fun _ => HY.out⟩
          · simp only [List.getElem_toArray, List.getElem_cons_zero, List.getElem_cons_succ]
            have hbz := hHeld.1
            have hba := hbz.alloc hbz.size (.cells (userC zeroU) 29)
            go_simp
            refine hK.out _ _ ?_ (fun hHeld => ?_)
            · (try dsimp only); exact KP _ hba
            clear hK K
            try simp only [List.getElem_toArray, List.getElem_cons_zero, List.getElem_cons_succ, Act.put, List.setIfInBounds_toArray, List.set_cons_zero, List.set_cons_succ]
            refine wpAnyH_ready (rs := [13]) (by kernel_rfl) (by simp) ?_
            refine AllReadyH.cons rfl (fun K hK => ?_) AllReadyH.nil
            simp only [List.getElem_toArray, List.getElem_cons_zero, List.getElem_cons_succ]
            go_simp
            go_at_call 33
            refine (HI3 _).mono ?_
            rintro e w1 ⟨rfl, rfl⟩
            have hbz := hHeld.1
            refine hK.out _ _ ?_ (fun hHeld => ?_)
            · (try dsimp only); exact KP _ hbz
            clear hK K
            try simp only [List.getElem_toArray, List.getElem_cons_zero, List.getElem_cons_succ, Act.put, List.setIfInBounds_toArray, List.set_cons_zero, List.set_cons_succ]
            refine wpAnyH_take (i := 20) (v := ?_) rfl (by kernel_rfl) (by kernel_rfl) (by kernel_rfl) (fun _ _ _ h => h) (Or.inl ⟨by rfl, ?_⟩) (by assumption) ?_
            rotate_left
            · (intro W hSw; (try dsimp only at hSw); go_simp; try with_reducible rfl)
            try simp only [List.getElem_toArray, List.getElem_cons_zero, List.getElem_cons_succ, Act.put, List.setIfInBounds_toArray, List.set_cons_zero, List.set_cons_succ]
            refine wpAnyH_ready (rs := [22]) (by kernel_rfl) (by simp) ?_
            refine AllReadyH.cons rfl (fun K hK => ?_) AllReadyH.nil
            simp only [List.getElem_toArray, List.getElem_cons_zero, List.getElem_cons_succ]
            obtain ⟨WX, hWX⟩ : ∃ WX, wr.alloc (.cells #[.string ⟨#[]⟩, .string ⟨#[]⟩, .int .i64 0, .int .i64 0, .string ⟨#[]⟩, .string ⟨#[]⟩] 29) = WX := ⟨_, rfl⟩
            have hhx : WX.heap[wr.heap.size]? = some (.cells (userC zeroU) 29 (0, 0)) := by rw [← hWX]; exact at_new _ _
            have hbx : Below wr.heap.size wr WX := by rw [← hWX]; exact (Below.refl _ _).alloc (Nat.le_refl _) _
            rw [hWX] at hHeld ⊢
            obtain ⟨⟨e0, e1, e2, e3, e4, e5⟩, ⟨z0, z1, z2, z3, z4, z5⟩⟩ := six_facts hhx
            go_simp
            obtain ⟨W6, hW6⟩ : ∃ W6, sixW WX wr.heap.size (.string x0) (.string x1) (.int .i64 N2) (.int .i64 N3) (.string x4) (.string x5) = W6 := ⟨_, rfl⟩
            have hbs : Below wr.heap.size wr W6 := by rw [← hW6]; exact sixW_below hbx (Nat.le_refl _) _ _ _ _ _ _
            have hat : W6.heap[wr.heap.size]? = some (.cells (userC ⟨x0, x1, N2, N3, x4, x5⟩) 29 (0, 0)) := by rw [← hW6]; exact sixW_at hhx ⟨x0, x1, N2, N3, x4, x5⟩
            unfold sixW at hW6
            rw [hW6]
            refine hK.out _ _ ?_ (fun hHeld => ?_)
            · (try dsimp only); exact KP _ hbs.drew
            clear hK K
            try simp only [List.getElem_toArray, List.getElem_cons_zero, List.getElem_cons_succ, Act.put, List.setIfInBounds_toArray, List.set_cons_zero, List.set_cons_succ]
            refine wpAnyH_done (by kernel_rfl) ?_ _
            have HB6 : Hid (Below wr.heap.size wr W6.drew) := Lib.hid hbs.drew
            have hat' : W6.drew.heap[wr.heap.size]? = some (.cells (userC ⟨x0, x1, N2, N3, x4, x5⟩) 29 (0, 0)) := hat
            generalize W6.drew = W7 at *
            clear hbx hbs hat hW6 hhx hWX e0 e1 e2 e3 e4 e5 z0 z1 z2 z3 z4 z5 HI2 HI3 KP q0 q1 q2 q3 q4 q5
            have HAT := Lib.hid hat'
            have HH7 := Lib.hid (below_heap HB6.out HH.out)
            have HBW := Lib.hid (HBw.out.trans (HB6.out.mono HBw.out.size))
            obtain ⟨⟨c0, c1, c2, c3, c4, c5⟩, _⟩ := six_facts hat'
            clear hat' HR HSL HB6 HH
            go_wp2_with fail
            refine (HMY.out _).mono ?_
            rintro e w7 ⟨rfl, hb⟩
            have HH8 := Lib.hid (below_heap hb HH7.out)
            have HB8 := Lib.hid (HBW.out.trans (hb.mono HBW.out.size))
            have HAT8 := Lib.hid (below_heap hb HAT.out)
            clear hb c0 c1 c2 c3 c4 c5 HH7 HBW HAT HMY
            obtain ⟨hu1, hu2, hu3⟩ := HU.out _ rfl
            cases hm : mayB ⟨x0, x1, N2, N3, x4, x5⟩ with
            | false =>
              have HN := Lib.hid (hu1 hm)
              obtain ⟨⟨e0, e1, e2, e3, e4, e5⟩, ⟨z0, z1, z2, z3, z4, z5⟩⟩ := six_facts HH8.out
              clear hu1 hu2 hu3 hm
              go_wp2
              exact leave20 w.heap.size rfl rfl (sixW_at HH8.out zeroU) ⟨_, false, rfl, sixW_below HB8.out (Nat.le_refl _) _ _ _ _ _ _, (fun h => by cases h), fun _ => HN.out⟩
            | true =>
              have hmp := mayP hm
              obtain ⟨n0, n1, n2, n3⟩ := line_parts (line_len hm)
              have HLC := Lib.hid (fun W => rline_any ⟨x0, x1, N2, N3, x4, x5⟩ W hmp.id0 hmp.id1 hmp.g0 hmp.g1 n0 n1 n2 n3)
              have HU2 := Lib.hid hu2
              have HU3 := Lib.hid (hu3 hm)
              clear hmp n0 n1 n2 n3 hu1 hu2 hu3 hm
              generalize (⟨(lineB ⟨x0, x1, N2, N3, x4, x5⟩).toArray⟩ : ByteArray) = R at *
              obtain ⟨⟨c0, c1, c2, c3, c4, c5⟩, _⟩ := six_facts HAT8.out
              go_wp2_with fail
              refine (HLC.out _).mono ?_
              rintro e w8 ⟨rfl, hb⟩
              have HH9 := Lib.hid (below_heap hb HH8.out)
              have HB9 := Lib.hid (HB8.out.trans (hb.mono HB8.out.size))
              have HAT9 := Lib.hid (below_heap hb HAT8.out)
              clear hb c0 c1 c2 c3 c4 c5 HH8 HB8 HAT8 HLC
              obtain ⟨⟨e0, e1, e2, e3, e4, e5⟩, ⟨z0, z1, z2, z3, z4, z5⟩⟩ := six_facts HH9.out
              obtain ⟨⟨c0, c1, c2, c3, c4, c5⟩, _⟩ := six_facts HAT9.out
              have heq : (R.toList == s.toList) = decide (R = s) := eq_text R s
              by_cases hrs : R = s
              · rw [decide_eq_true hrs] at heq
                have HY := Lib.hid (HU3.out hrs)
                clear hrs
                go_wp2
                exact leave20 w.heap.size rfl rfl (sixW_at HH9.out ⟨x0, x1, N2, N3, x4, x5⟩) ⟨_, true, rfl, sixW_below HB9.out (Nat.le_refl _) _ _ _ _ _ _, (fun _ => HY.out), fun h => by cases h⟩
              · rw [decide_eq_false hrs] at heq
                have HY := Lib.hid (HU2.out hrs)
                clear hrs
                go_wp2
                exact leave20 w.heap.size rfl rfl (sixW_at HH9.out zeroU) ⟨_, false, rfl, sixW_below HB9.out (Nat.le_refl _) _ _ _ _ _ _, (fun h => by cases h), fun _ => HY.out⟩
        · simp only [List.getElem_toArray, List.getElem_cons_zero, List.getElem_cons_succ]
          have hbz := hHeld.1
          have hba := hbz.alloc hbz.size (.cells (userC zeroU) 29)
          go_simp
          refine hK.out _ _ ?_ (fun hHeld => ?_)
          · (try dsimp only); exact KP _ hba
          clear hK K
          try simp only [List.getElem_toArray, List.getElem_cons_zero, List.getElem_cons_succ, Act.put, List.setIfInBounds_toArray, List.set_cons_zero, List.set_cons_succ]
          refine wpAnyH_ready (rs := [9]) (by kernel_rfl) (by simp) ?_
          refine AllReadyH.cons rfl (fun K hK => ?_) AllReadyH.nil
          simp only [List.getElem_toArray, List.getElem_cons_zero, List.getElem_cons_succ]
          go_simp
          go_at_call 33
          refine (HI2 _).mono ?_
          rintro e w1 ⟨rfl, rfl⟩
          have hbz := hHeld.1
          refine hK.out _ _ ?_ (fun hHeld => ?_)
          · (try dsimp only); exact KP _ hbz
          clear hK K
          try simp only [List.getElem_toArray, List.getElem_cons_zero, List.getElem_cons_succ, Act.put, List.setIfInBounds_toArray, List.set_cons_zero, List.set_cons_succ]
          refine wpAnyH_ready (rs := [13]) (by kernel_rfl) (by simp) ?_
          refine AllReadyH.cons rfl (fun K hK => ?_) AllReadyH.nil
          simp only [List.getElem_toArray, List.getElem_cons_zero, List.getElem_cons_succ]
          go_simp
          go_at_call 33
          refine (HI3 _).mono ?_
          rintro e w1 ⟨rfl, rfl⟩
          have hbz := hHeld.1
          refine hK.out _ _ ?_ (fun hHeld => ?_)
          · (try dsimp only); exact KP _ hbz
          clear hK K
          try simp only [List.getElem_toArray, List.getElem_cons_zero, List.getElem_cons_succ, Act.put, List.setIfInBounds_toArray, List.set_cons_zero, List.set_cons_succ]
          refine wpAnyH_take (i := 20) (v := ?_) rfl (by kernel_rfl) (by kernel_rfl) (by kernel_rfl) (fun _ _ _ h => h) (Or.inl ⟨by rfl, ?_⟩) (by assumption) ?_
          rotate_left
          · (intro W hSw; (try dsimp only at hSw); go_simp; try with_reducible rfl)
          try simp only [List.getElem_toArray, List.getElem_cons_zero, List.getElem_cons_succ, Act.put, List.setIfInBounds_toArray, List.set_cons_zero, List.set_cons_succ]
          refine wpAnyH_ready (rs := [22]) (by kernel_rfl) (by simp) ?_
          refine AllReadyH.cons rfl (fun K hK => ?_) AllReadyH.nil
          simp only [List.getElem_toArray, List.getElem_cons_zero, List.getElem_cons_succ]
          obtain ⟨WX, hWX⟩ : ∃ WX, wr.alloc (.cells #[.string ⟨#[]⟩, .string ⟨#[]⟩, .int .i64 0, .int .i64 0, .string ⟨#[]⟩, .string ⟨#[]⟩] 29) = WX := ⟨_, rfl⟩
          have hhx : WX.heap[wr.heap.size]? = some (.cells (userC zeroU) 29 (0, 0)) := by rw [← hWX]; exact at_new _ _
          have hbx : Below wr.heap.size wr WX := by rw [← hWX]; exact (Below.refl _ _).alloc (Nat.le_refl _) _
          rw [hWX] at hHeld ⊢
          obtain ⟨⟨e0, e1, e2, e3, e4, e5⟩, ⟨z0, z1, z2, z3, z4, z5⟩⟩ := six_facts hhx
          go_simp
          obtain ⟨W6, hW6⟩ : ∃ W6, sixW WX wr.heap.size (.string x0) (.string x1) (.int .i64 N2) (.int .i64 N3) (.string x4) (.string x5) = W6 := ⟨_, rfl⟩
          have hbs : Below wr.heap.size wr W6 := by rw [← hW6]; exact sixW_below hbx (Nat.le_refl _) _ _ _ _ _ _
          have hat : W6.heap[wr.heap.size]? = some (.cells (userC ⟨x0, x1, N2, N3, x4, x5⟩) 29 (0, 0)) := by rw [← hW6]; exact sixW_at hhx ⟨x0, x1, N2, N3, x4, x5⟩
          unfold sixW at hW6
          rw [hW6]
          refine hK.out _ _ ?_ (fun hHeld => ?_)
          · (try dsimp only); exact KP _ hbs.drew
          clear hK K
          try simp only [List.getElem_toArray, List.getElem_cons_zero, List.getElem_cons_succ, Act.put, List.setIfInBounds_toArray, List.set_cons_zero, List.set_cons_succ]
          refine wpAnyH_done (by kernel_rfl) ?_ _
          have HB6 : Hid (Below wr.heap.size wr W6.drew) := Lib.hid hbs.drew
          have hat' : W6.drew.heap[wr.heap.size]? = some (.cells (userC ⟨x0, x1, N2, N3, x4, x5⟩) 29 (0, 0)) := hat
          generalize W6.drew = W7 at *
          clear hbx hbs hat hW6 hhx hWX e0 e1 e2 e3 e4 e5 z0 z1 z2 z3 z4 z5 HI2 HI3 KP q0 q1 q2 q3 q4 q5
          have HAT := Lib.hid hat'
          have HH7 := Lib.hid (below_heap HB6.out HH.out)
          have HBW := Lib.hid (HBw.out.trans (HB6.out.mono HBw.out.size))
          obtain ⟨⟨c0, c1, c2, c3, c4, c5⟩, _⟩ := six_facts hat'
          clear hat' HR HSL HB6 HH
          go_wp2_with fail
          refine (HMY.out _).mono ?_
          rintro e w7 ⟨rfl, hb⟩
          have HH8 := Lib.hid (below_heap hb HH7.out)
          have HB8 := Lib.hid (HBW.out.trans (hb.mono HBW.out.size))
          have HAT8 := Lib.hid (below_heap hb HAT.out)
          clear hb c0 c1 c2 c3 c4 c5 HH7 HBW HAT HMY
          obtain ⟨hu1, hu2, hu3⟩ := HU.out _ rfl
          cases hm : mayB ⟨x0, x1, N2, N3, x4, x5⟩ with
          | false =>
            have HN := Lib.hid (hu1 hm)
            obtain ⟨⟨e0, e1, e2, e3, e4, e5⟩, ⟨z0, z1, z2, z3, z4, z5⟩⟩ := six_facts HH8.out
            clear hu1 hu2 hu3 hm
            go_wp2
            exact leave20 w.heap.size rfl rfl (sixW_at HH8.out zeroU) ⟨_, false, rfl, sixW_below HB8.out (Nat.le_refl _) _ _ _ _ _ _, (fun h => by cases h), fun _ => HN.out⟩
          | true =>
            have hmp := mayP hm
            obtain ⟨n0, n1, n2, n3⟩ := line_parts (line_len hm)
            have HLC := Lib.hid (fun W => rline_any ⟨x0, x1, N2, N3, x4, x5⟩ W hmp.id0 hmp.id1 hmp.g0 hmp.g1 n0 n1 n2 n3)
            have HU2 := Lib.hid hu2
            have HU3 := Lib.hid (hu3 hm)
            clear hmp n0 n1 n2 n3 hu1 hu2 hu3 hm
            generalize (⟨(lineB ⟨x0, x1, N2, N3, x4, x5⟩).toArray⟩ : ByteArray) = R at *
            obtain ⟨⟨c0, c1, c2, c3, c4, c5⟩, _⟩ := six_facts HAT8.out
            go_wp2_with fail
            refine (HLC.out _).mono ?_
            rintro e w8 ⟨rfl, hb⟩
            have HH9 := Lib.hid (below_heap hb HH8.out)
            have HB9 := Lib.hid (HB8.out.trans (hb.mono HB8.out.size))
            have HAT9 := Lib.hid (below_heap hb HAT8.out)
            clear hb c0 c1 c2 c3 c4 c5 HH8 HB8 HAT8 HLC
            obtain ⟨⟨e0, e1, e2, e3, e4, e5⟩, ⟨z0, z1, z2, z3, z4, z5⟩⟩ := six_facts HH9.out
            obtain ⟨⟨c0, c1, c2, c3, c4, c5⟩, _⟩ := six_facts HAT9.out
            have heq : (R.toList == s.toList) = decide (R = s) := eq_text R s
            by_cases hrs : R = s
            · rw [decide_eq_true hrs] at heq
              have HY := Lib.hid (HU3.out hrs)
              clear hrs
              go_wp2
              exact leave20 w.heap.size rfl rfl (sixW_at HH9.out ⟨x0, x1, N2, N3, x4, x5⟩) ⟨_, true, rfl, sixW_below HB9.out (Nat.le_refl _) _ _ _ _ _ _, (fun _ => HY.out), fun h => by cases h⟩
            · rw [decide_eq_false hrs] at heq
              have HY := Lib.hid (HU2.out hrs)
              clear hrs
              go_wp2
              exact leave20 w.heap.size rfl rfl (sixW_at HH9.out zeroU) ⟨_, false, rfl, sixW_below HB9.out (Nat.le_refl _) _ _ _ _ _ _, (fun h => by cases h), fun _ => HY.out⟩
      · obtain ⟨la, lc, rfl, hcl⟩ := HSL.out
        have h61 : ((l.length : Int) == 6) = false := by
          cases hh : ((l.length : Int) == 6) with
          | false => rfl
          | true => simp at hh; omega
        have HN := Lib.hid (user_not HP.out h6)
        obtain ⟨⟨e0, e1, e2, e3, e4, e5⟩, ⟨z0, z1, z2, z3, z4, z5⟩⟩ := six_facts HH.out
        clear h6 hcl
        go_wp2
        exact leave20 w.heap.size rfl rfl (sixW_at HH.out zeroU) ⟨_, false, rfl, sixW_below HBw.out (Nat.le_refl _) _ _ _ _ _ _, (fun h => by cases h), fun _ => HN.out⟩
end Go.Proofs.YtmfbmjnoepcigaaGreatDoor
