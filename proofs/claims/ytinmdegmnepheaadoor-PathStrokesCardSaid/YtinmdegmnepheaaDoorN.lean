import Derived.Test.YtinmdegmnepheaaDoorK
import Derived.Test.YtinmdegmnepheaaDoorM
import Derived.Test.YtinmdegmnepheaaDoorI
import Derived.Test.YtinmdegmnepheaaDoorF
import Derived.Deep.RegionHeld3
import Derived.Deep.CutRange
namespace Go.Proofs.YtinmdegmnepheaaDoor
open Go.RowKit

/-- A slice that came in, as it reads: strings, numbers. -/
def InS (w : World) (v : Value) (n : Nat) (x : Nat → ByteArray) : Prop :=
  ∃ a cap, v = .slice a n cap ∧ ∀ j, j < n → ∃ b off, a = some ⟨b, off, none⟩ ∧ w.cell? ⟨b, off + j, none⟩ = some (.string (x j))
def InI (w : World) (v : Value) (n : Nat) (x : Nat → Int) : Prop :=
  ∃ a cap, v = .slice a n cap ∧ ∀ j, j < n → ∃ b off, a = some ⟨b, off, none⟩ ∧ w.cell? ⟨b, off + j, none⟩ = some (.int .i64 (x j))

def sep : Nat → Bytes
  | 0 => [47]
  | 1 => [47, 47]
  | 2 => [47, 46, 47]
  | _ => [47, 46, 47, 47, 46, 47]
theorem Good.stroke {b : Bytes} {abs : Bool} {l : List Bytes} (h : Good b abs l) {n : ByteArray} (hn : nameB n = true) (k : Nat) (hm : (b ++ sep k ++ n.data.toList).length ≤ 128) : Good (b ++ sep k ++ n.data.toList) abs (l ++ [n.data.toList]) := by
  have hp := nm_parts hn
  have h2 : ∀ x y : Bytes, parts (x ++ 47 :: y) = parts x ++ parts y := parts_app
  match k with
  | 0 =>
    refine h.add hn (mid := [47]) ?_ hm ?_ ?_ (by decide)
    · rw [h2]; rfl
    · have : b ++ [47] ++ n.data.toList = b ++ 47 :: n.data.toList := by simp
      rw [show sep 0 = [47] from rfl] at *
      rw [this, h2, hp]; simp [parts, partsA]
    · intro x hx; simp [parts, partsA] at hx
  | 1 =>
    refine h.add hn (mid := [47, 47]) ?_ hm ?_ ?_ (by decide)
    · rw [h2]; rfl
    · rw [show sep 1 = [47, 47] from rfl] at *
      have : b ++ [47, 47] ++ n.data.toList = b ++ 47 :: ([] ++ 47 :: n.data.toList) := by simp
      rw [this, h2, h2, hp]; simp [parts, partsA]
    · intro x hx; simp [parts, partsA] at hx
  | 2 =>
    refine h.add hn (mid := [47, 46, 47]) ?_ hm ?_ ?_ (by decide)
    · rw [h2]; rfl
    · rw [show sep 2 = [47, 46, 47] from rfl] at *
      have : b ++ [47, 46, 47] ++ n.data.toList = b ++ 47 :: ([46] ++ 47 :: n.data.toList) := by simp
      rw [this, h2, h2, hp]; simp [parts, partsA]
    · intro x hx; simpa [parts, partsA] using hx
  | k + 3 =>
    refine h.add hn (mid := [47, 46, 47, 47, 46, 47]) ?_ hm ?_ ?_ (by decide)
    · rw [h2]; rfl
    · rw [show sep (k + 3) = [47, 46, 47, 47, 46, 47] from rfl] at *
      have : b ++ [47, 46, 47, 47, 46, 47] ++ n.data.toList = b ++ 47 :: ([46] ++ 47 :: ([] ++ 47 :: ([46] ++ 47 :: n.data.toList))) := by simp
      rw [this, h2, h2, h2, h2, hp]; simp [parts, partsA]
    · intro x hx; simpa [parts, partsA] using hx
theorem good_dot : Good [46] false [] := ⟨by decide, by decide, by decide, by decide, by decide, by decide⟩
theorem good_stroke : Good [47] true [] := ⟨by decide, by decide, by decide, by decide, by decide, by decide⟩

set_option maxHeartbeats 2000000 in
theorem strokes_law (vl vg : Value) (n m : Nat) (x : Nat → ByteArray) (z : Nat → Int) (abs : Bool) (w : World) (hl : InS w vl n x) (hg : InI w vg m z) (hn : n ≤ 140737488351232) (hm : m ≤ 140737488351232) :
    Calls Tryd.prog 7 #[vl, vg, .bool abs] w fun e w' => e = .returned (.bool true) ∧ Below w.heap.size w w' := by
  obtain ⟨al, cl, rfl, hlc⟩ := hl
  obtain ⟨ag, cg, rfl, hgc⟩ := hg
  have hn1 : (n : Int) ≤ 140737488351232 := by omega
  have hm1 : (m : Int) ≤ 140737488351232 := by omega
  have HLC := Lib.hid hlc
  have HGC := Lib.hid hgc
  clear hlc hgc
  go_enter Tryd.func7, Tryd.ntmps7
  go_wp2_with fail
  refine (shown_any w).mono ?_
  rintro e w1 ⟨rfl, hb⟩
  have HB := Lib.hid hb
  clear hb
  go_upto_if 17 with fail
  go_cut [8] from 17 to 17 (fun s wx => ∃ s0 : ByteArray, s = .string s0 ∧ Good s0.data.toList abs [] ∧ wx = w1)
  case first =>
    cases abs
    · go_wp2_with fail
      go_meet
      exact ⟨_, rfl, good_dot, rfl⟩
    · go_wp2_with fail
      go_meet
      exact ⟨_, rfl, good_stroke, rfl⟩
  case rest =>
    obtain ⟨s0, rfl, hg0, hw⟩ := hcut
    have HB0 := Lib.hid (hw ▸ HB.out)
    have HG0 := Lib.hid hg0
    clear hw hg0
    go_wp2
    go_loopw [8, 9, 10, 11, 12] (fun s ns i k t wr => ∃ (j : Nat) (s0 : ByteArray) (L : List ByteArray), j ≤ 9 ∧ j ≤ n ∧ L.length ≤ j ∧ i = .int .i64 j ∧ s = .string s0 ∧ Good s0.data.toList abs (L.map fun x : ByteArray => x.data.toList) ∧ Below w.heap.size w wr ∧ wr.ownsRow w.heap.size 9 1 ns L.length (L.map .string)) (fun s ns i k t _ => 9 - (intOf i).toNat)
    case atStart => exact ⟨0, s0, [], by omega, Nat.zero_le _, Nat.le_refl _, rfl, rfl, HG0.out, HB0.out, World.ownsRow_nil _ _ _ _⟩
    case round =>
      obtain ⟨j, s1, L, hj9, hjn, hL, rfl, rfl, hg, hb, ho⟩ := hrel
      have HG := Lib.hid hg
      have HBr := Lib.hid hb
      have HO := Lib.hid ho
      clear hg hb ho
      by_cases hlt : j < n
      · have hlt1 : (j : Int) < n := by omega
        by_cases h9 : j < 9
        · have h91 : (j : Int) < 9 := by omega
          obtain ⟨b, off, rfl, hc⟩ := HLC.out j hlt
          have hbl := World.block_lt_of_cell? w ⟨b, off + j, none⟩ hc
          have hcw : wr.cell? ⟨b, off + j, none⟩ = some (.string (x j)) := by rw [HBr.out.cell (p := ⟨b, off + j, none⟩) hbl]; exact hc
          clear hc
          generalize x j = y at hcw
          go_wp2_with fail
          by_cases hny : nameB y = true
          · refine (name_any _ _).mono ?_
            rintro e w2 ⟨he, rfl⟩
            rw [hny] at he
            subst he
            go_upto_if 37 with fail
            go_cut [11] from 18 to 64 (fun k wx => ∃ q : Nat, q ≤ 3 ∧ k = .int .i64 q ∧ wx = wr)
            case first =>
              by_cases hjm : j < m
              · have hjm1 : (j : Int) < m := by omega
                obtain ⟨b2, off2, rfl, hc2⟩ := HGC.out j hjm
                have hbl2 := World.block_lt_of_cell? w ⟨b2, off2 + j, none⟩ hc2
                have hcw2 : wr.cell? ⟨b2, off2 + j, none⟩ = some (.int .i64 (z j)) := by rw [HBr.out.cell (p := ⟨b2, off2 + j, none⟩) hbl2]; exact hc2
                clear hc2
                obtain ⟨q, hq, hq3⟩ : ∃ q : Nat, bits .and .i64 (z j) 3 = q ∧ q ≤ 3 := and_mask (z j) 3 (by omega)
                generalize z j = zz at hcw2 hq
                go_wp2_with fail
                go_meet
                exact ⟨q, hq3, rfl, rfl⟩
              · have hjm1 : ¬ (j : Int) < m := by omega
                go_wp2_with fail
                go_meet
                exact ⟨0, by omega, rfl, rfl⟩
            case rest =>
              obtain ⟨q, hq3, rfl, hwx⟩ := hcut
              subst hwx
              have hs1 : s1.size ≤ 128 := by rw [← sz]; exact HG.out.len
              have hy1 : y.size ≤ 14 := ((nameB_iff y).1 hny).2.1
              have KP : ∀ W', Below wc.heap.size wc W' → W'.cell? ⟨b, off + j, none⟩ = some (.string y) := fun W' h => by
                rw [h.cell (p := ⟨b, off + j, none⟩) (Nat.lt_of_lt_of_le hbl HBr.out.size)]; exact hcw
              go_upto_region 13 with fail
              go_cut [12] from 18 to 64 (fun t wx => ∃ T : ByteArray, t = .string T ∧ T.data.toList = s1.data.toList ++ sep q ++ y.data.toList ∧ Below wc.heap.size wc wx)
              case first =>
                obtain rfl | rfl | rfl | rfl : q = 0 ∨ q = 1 ∨ q = 2 ∨ q = 3 := by omega
                all_goals
                  have hcd : wc.drew.cell? ⟨b, off + j, none⟩ = some (.string y) := KP _ (Below.refl _ _).drew
                  have hca : ∀ X, (wc.alloc X).drew.cell? ⟨b, off + j, none⟩ = some (.string y) := fun X => KP _ ((Below.refl _ _).alloc (Nat.le_refl _) X).drew
                  clear KP
                  go_region_with (fail)
                all_goals go_wp2_with fail
                all_goals go_meet
                all_goals exact ⟨_, rfl, by simp [ByteArray.data_append, sep], ((Below.refl _ _).alloc (Nat.le_refl _) _).drew⟩
              case rest =>
                obtain ⟨T, rfl, hT, hbw⟩ := hcut
                have HT := Lib.hid hT
                have hTs : T.size ≤ 200 := by
                  rw [← sz, hT]
                  have hs : (sep q).length ≤ 6 := by
                    obtain rfl | rfl | rfl | rfl : q = 0 ∨ q = 1 ∨ q = 2 ∨ q = 3 := by omega
                    all_goals decide
                  simp only [List.length_append, sz]; omega
                have HBw := Lib.hid (HBr.out.trans (hbw.mono HBr.out.size))
                have hcw3 := (hbw.cell (p := ⟨b, off + j, none⟩) (Nat.lt_of_lt_of_le hbl HBr.out.size)).trans hcw
                have HOw := Lib.hid (own_below HO.out hbw)
                clear hT hbw hcw KP
                by_cases hbig : 128 < T.size
                · have hbig1 : (128 : Int) < T.size := by omega
                  have hs1z : s1.size ≤ 128 := by rw [← sz]; exact HG.out.len
                  obtain ⟨dir, hsp, -⟩ := HG.out.split
                  have HSP := Lib.hid hsp
                  clear hsp
                  go_wp2_with fail
                  refine (split_any _ _ (by omega)).mono ?_
                  rintro e w3 ⟨abs3, dir3, v3, l3, err3, rfl, ho3, hb3, hsp3⟩
                  replace hsp3 := HSP.out.symm.trans hsp3
                  simp only [Prod.mk.injEq] at hsp3
                  obtain ⟨rfl, rfl, hl3, rfl⟩ := hsp3
                  obtain rfl : L = l3 := ba_inj hl3
                  obtain ⟨a3, cap3, rfl, hc3⟩ := Sl.of_own ho3
                  have HO3 := Lib.hid ho3
                  have HOv := Lib.hid (own_below HOw.out hb3)
                  have HBf := Lib.hid (HBw.out.trans (hb3.mono HBw.out.size))
                  have hLz : L.length ≤ 1000000 := by omega
                  clear hl3 hc3 ho3 hb3
                  go_wp2_with fail
                  refine (same_eq _ _ _ L (sl_n (HO3.out.alloc _) rfl rfl) (sl_n (HOv.out.alloc _) rfl rfl) hLz).mono ?_
                  rintro e w4 ⟨rfl, k4, rfl⟩
                  go_wp2
                  go_ret
                  exact ⟨rfl, belowN (HBf.out.alloc HBf.out.size _) _⟩
                · have hbig1 : ¬ (128 : Int) < T.size := by omega
                  have HGn := Lib.hid (HG.out.stroke hny q (by rw [← HT.out, sz]; omega))
                  obtain ⟨i0, hi, hz0, hz1, hz4⟩ : ∃ i0, Tryd.prog.info? 9 = some i0 ∧ i0.zero = some (.string ByteArray.empty) ∧ i0.size = 1 ∧ i0.bytes = 16 := by
                    have h := info9
                    cases hh : Tryd.prog.info? 9 with
                    | none => rw [hh] at h; cases h
                    | some i => rw [hh] at h; simp at h; exact ⟨i, rfl, h.1, h.2.1, h.2.2⟩
                  go_wp2_with (at_builtin; refine wpList_append_own _ rfl _ _ 23 rfl w.heap.size 9 i0 (.string ByteArray.empty) 1 16 Tryd.underlying23 hi hz0 hz1 hz4 rfl (by decide) _ _ _ rfl (HOw.out.alloc _) ⟨_, 0, none⟩ 1 1 [.string y] rfl rfl (cell_one_new _ _ _) (by simp [Value.oneCell']) (by unfold maxLen; omega) (by omega) (by have := HBw.out.size; simp; omega) ?_; intro v' w5 hown' hgrow _)
                  have HB5 := Lib.hid (app_below HBw.out HOw.out _ hgrow)
                  have HO5 := Lib.hid hown'
                  clear hgrow hown'
                  go_wp2
                  go_roundw
                  case rel => exact ⟨j + 1, T, L ++ [y], by omega, by omega, by simp; omega, by go_num, rfl, by rw [HT.out, List.map_append]; exact HGn.out, HB5.out, by simpa using HO5.out⟩
                  case measure => simp [intOf]; omega
          · have hny' : nameB y = false := by simpa using hny
            refine (name_any _ _).mono ?_
            rintro e w2 ⟨he, rfl⟩
            rw [hny'] at he
            subst he
            go_wp2
            go_roundw
            case rel => exact ⟨j + 1, s1, L, by omega, by omega, by omega, by go_num, rfl, HG.out, HBr.out, HO.out⟩
            case measure => simp [intOf]; omega
        · have h91 : ¬ (j : Int) < 9 := by omega
          have hs1z : s1.size ≤ 128 := by rw [← sz]; exact HG.out.len
          obtain ⟨dir, hsp, -⟩ := HG.out.split
          have HSP := Lib.hid hsp
          clear hsp
          go_wp2_with fail
          refine (split_any _ _ (by omega)).mono ?_
          rintro e w3 ⟨abs3, dir3, v3, l3, err3, rfl, ho3, hb3, hsp3⟩
          replace hsp3 := HSP.out.symm.trans hsp3
          simp only [Prod.mk.injEq] at hsp3
          obtain ⟨rfl, rfl, hl3, rfl⟩ := hsp3
          obtain rfl : L = l3 := ba_inj hl3
          obtain ⟨a3, cap3, rfl, hc3⟩ := Sl.of_own ho3
          have HO3 := Lib.hid ho3
          have HOv := Lib.hid (own_below HO.out hb3)
          have HBf := Lib.hid (HBr.out.trans (hb3.mono HBr.out.size))
          have hLz : L.length ≤ 1000000 := by omega
          clear hl3 hc3 ho3 hb3
          go_wp2_with fail
          refine (same_eq _ _ _ L (sl_n (HO3.out.alloc _) rfl rfl) (sl_n (HOv.out.alloc _) rfl rfl) hLz).mono ?_
          rintro e w4 ⟨rfl, k4, rfl⟩
          go_wp2
          go_ret
          exact ⟨rfl, belowN (HBf.out.alloc HBf.out.size _) _⟩
      · have hlt1 : ¬ (j : Int) < n := by omega
        have hs1z : s1.size ≤ 128 := by rw [← sz]; exact HG.out.len
        obtain ⟨dir, hsp, -⟩ := HG.out.split
        have HSP := Lib.hid hsp
        clear hsp
        go_wp2_with fail
        refine (split_any _ _ (by omega)).mono ?_
        rintro e w3 ⟨abs3, dir3, v3, l3, err3, rfl, ho3, hb3, hsp3⟩
        replace hsp3 := HSP.out.symm.trans hsp3
        simp only [Prod.mk.injEq] at hsp3
        obtain ⟨rfl, rfl, hl3, rfl⟩ := hsp3
        obtain rfl : L = l3 := ba_inj hl3
        obtain ⟨a3, cap3, rfl, hc3⟩ := Sl.of_own ho3
        have HO3 := Lib.hid ho3
        have HOv := Lib.hid (own_below HO.out hb3)
        have HBf := Lib.hid (HBr.out.trans (hb3.mono HBr.out.size))
        have hLz : L.length ≤ 1000000 := by omega
        clear hl3 hc3 ho3 hb3
        go_wp2_with fail
        refine (same_eq _ _ _ L (sl_n (HO3.out.alloc _) rfl rfl) (sl_n (HOv.out.alloc _) rfl rfl) hLz).mono ?_
        rintro e w4 ⟨rfl, k4, rfl⟩
        go_wp2
        go_ret
        exact ⟨rfl, belowN (HBf.out.alloc HBf.out.size _) _⟩
end Go.Proofs.YtinmdegmnepheaaDoor
