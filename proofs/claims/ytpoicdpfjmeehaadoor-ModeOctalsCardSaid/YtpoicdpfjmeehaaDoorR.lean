/- The document's Text: its walk. -/
import Derived.Test.YtpoicdpfjmeehaaDoorQ
import Derived.Deep.CutRange
import Derived.OwnWalk
import Derived.Maps.AppendAt
namespace Go.Proofs.YtpoicdpfjmeehaaDoor
open Go.RowKit

theorem info5 : (Tryd.prog.info? 5).map (fun i => (i.zero, i.size, i.bytes)) = some (some (.int .u8 0), 1, 1) := by kernel_rfl
theorem rbs_len (m : Nat) : ∀ i, (rbs m i).length = i
  | 0 => rfl
  | i + 1 => by simp [rbs, rbs_len m i]
theorem own_ge {w : World} {base : Nat} {e : TypeId} {sz n : Nat} {v : Value} {xs : List Value} (h : w.ownsRow base e sz v n xs) : ∀ k, v.ownBlock = some k → base ≤ k := by
  intro k hk
  obtain ⟨_, ⟨rfl, h0⟩ | ⟨g, cap, cur, rfl, hb, _⟩⟩ := h
  · cases hk
  · cases hk; exact hb
theorem own_some {w : World} {base n : Nat} {e : TypeId} {v : Value} {xs : List Value} (h : w.ownsRow base e 1 v n xs) (hn : 0 < n) : ∃ g cap, v = .slice (some ⟨g, 0, none⟩) n cap ∧ base ≤ g := by
  obtain ⟨_, ⟨rfl, h0⟩ | ⟨g, cap, cur, rfl, hb, _⟩⟩ := h
  · omega
  · exact ⟨g, cap, rfl, hb⟩
theorem bc_set (l : Bytes) (i : Nat) (c : UInt8) : (Lib.byteCells l).set i (.int .u8 c.toNat) = Lib.byteCells (l.set i c) := by
  simp [Lib.byteCells, List.map_set]
/-- The bytes of an own row, as a text. -/
theorem row_bytes {w : World} {base g n cap : Nat} {l : Bytes} (h : w.ownsRow base 5 1 (.slice (some ⟨g, 0, none⟩) n cap) n (Lib.byteCells l)) : l.length = n ∧ ∀ j (hj : j < l.length), w.cell? (Addr.add ⟨g, 0, none⟩ j) = some (.int .u8 (l[j].toNat : Int)) := by
  have hl : l.length = n := by have := h.1; simpa [Lib.byteCells] using this
  refine ⟨hl, fun j hj => ?_⟩
  have := h.cellAt j (by omega)
  have e : Addr.add ⟨g, 0, none⟩ j = ⟨g, j, none⟩ := by by_cases h0 : j = 0 <;> simp [Addr.add, h0]
  rw [e, this]
  simp [Lib.byteCells, hj]

set_option maxHeartbeats 4000000 in
set_option maxRecDepth 100000 in
theorem rtext_any (k m : Nat) (hk : k ≤ 2) (hr : rightB (m : Int) = true) (hm : m ≤ 3071) (w : World) :
    Calls Tryd.prog 19 #[.int .i64 k, .int .i64 m] w fun e w' => ∃ s : ByteArray, s.data.toList = textS k m ∧ e = .returned (.string s) ∧ Below w.heap.size w w' := by
  obtain ⟨i0, hi, hz0, hz1, hz4⟩ := info_parts info5
  have hk1 : ¬ (k : Int) < 0 := by omega
  have hk2 : ¬ 2 < (k : Int) := by omega
  have hk3 : (k : Int) < 3 := by omega
  have HK := Lib.hid hk
  have HM := Lib.hid hm
  clear hk hm
  go_enter Tryd.func19, Tryd.ntmps19
  go_wp2_with fail
  refine (rright_any _ (by have := HM.out; omega) _).mono ?_
  rintro e w' ⟨he, rfl⟩
  rw [hr] at he
  subst he
  clear hr
  have hx : ∀ h : k < (⟨#[45, 100, 99]⟩ : ByteArray).size, (⟨#[45, 100, 99]⟩ : ByteArray)[k]'h = khead k := fun h => by
    obtain rfl | rfl | rfl : k = 0 ∨ k = 1 ∨ k = 2 := by have := HK.out; omega
    all_goals rfl
  go_upto_region 6 with fail
  have ho0 : (w'.alloc (Obj.cells #[.int .u8 (khead k).toNat] 5)).ownsRow w'.heap.size 5 1 (.slice (some ⟨w'.heap.size, 0, none⟩) 1 1) 1 (Lib.byteCells (khead k :: rbs m 0)) := World.ownsRow_lit w' #[.int .u8 (khead k).toNat] 1 (Nat.le_refl _) (by decide) rfl
  have HO0 := Lib.hid ho0
  have HB0 : Hid (Below w'.heap.size w' (w'.alloc (Obj.cells #[.int .u8 (khead k).toNat] 5))) := Lib.hid ((Below.refl _ _).alloc (Nat.le_refl _) _)
  clear ho0 hx
  go_loopw [6, 7, 8] (fun v6 v7 v8 wr => ∃ (q : Nat) (z : Int), q ≤ 9 ∧ v7 = .int .i64 z ∧ Hid (z = (q : Int) - 1 ∧ wr.ownsRow w'.heap.size 5 1 v6 (10 - q) (Lib.byteCells (khead k :: rbs m (9 - q))) ∧ Below w'.heap.size w' wr)) (fun v6 v7 v8 _ => (intOf v7 + 1).toNat)
  case atStart => exact ⟨9, 8, by omega, rfl, Lib.hid ⟨rfl, HO0.out, HB0.out⟩⟩
  case round =>
    obtain ⟨q, z, hq, rfl, HH⟩ := hrel
    cases q with
    | zero =>
      obtain rfl : z = -1 := by rw [HH.out.1]; rfl
      have HO : Hid (wr.ownsRow w'.heap.size 5 1 u6 10 (Lib.byteCells (khead k :: rbs m 9))) := Lib.hid HH.out.2.1
      have HB := Lib.hid HH.out.2.2
      clear HH HO0 HB0 hk1 hk2 hk3
      obtain ⟨g, cap, rfl, hg⟩ := own_some HO.out (by decide)
      obtain ⟨l, hl⟩ : ∃ l, khead k :: rbs m 9 = l := ⟨_, rfl⟩
      have HL := Lib.hid hl
      rw [hl] at HO
      have f1 : bits .and .i64 (m : Int) 2048 = ((m &&& 2048 : Nat) : Int) := and_nat (b := 2048) (by have := HM.out; unfold big; omega) (by decide)
      have f2 : bits .and .i64 (m : Int) 64 = ((m &&& 64 : Nat) : Int) := and_nat (b := 64) (by have := HM.out; unfold big; omega) (by decide)
      have f3 : bits .and .i64 (m : Int) 512 = ((m &&& 512 : Nat) : Int) := and_nat (b := 512) (by have := HM.out; unfold big; omega) (by decide)
      have f4 : bits .and .i64 (m : Int) 1 = ((m &&& 1 : Nat) : Int) := and_nat (b := 1) (by have := HM.out; unfold big; omega) (by decide)
      have HS3 : Hid (∀ l, rset3 m l = if m &&& 2048 = 0 then l else l.set 3 (if m &&& 64 = 0 then 83 else 115)) := Lib.hid (fun _ => rfl)
      have HS9 : Hid (∀ l, rset9 m l = if m &&& 512 = 0 then l else l.set 9 (if m &&& 1 = 0 then 84 else 116)) := Lib.hid (fun _ => rfl)
      have HTX := Lib.hid (rtext_eq k m HM.out)
      rw [hl] at HTX
      clear hl
      generalize rset3 m = R3 at *
      generalize rset9 m = R9 at *
      generalize m &&& 2048 = z1 at *
      generalize m &&& 64 = z2 at *
      generalize m &&& 512 = z3 at *
      generalize m &&& 1 = z4 at *
      go_upto_if 43 with fail
      go_cut [] from 41 to 50 (fun wx => wx.ownsRow w'.heap.size 5 1 (.slice (some ⟨g, 0, none⟩) 10 cap) 10 (Lib.byteCells (R3 l)) ∧ Below w'.heap.size w' wx)
      case first =>
        by_cases h1 : z1 = 0
        · have e : R3 l = l := by rw [HS3.out, if_pos h1]
          subst h1
          go_wp2
          go_meet
          exact ⟨by rw [e]; exact HO.out, HB.out⟩
        · have h11 : ¬ (z1 : Int) = 0 := by omega
          have c3 := HO.out.cellAt 3 (by omega)
          have q3 := HO.out.frozenAt 3
          obtain ⟨x3, hx3⟩ : ∃ x, (Lib.byteCells (l))[3]? = some x := by
            have := HO.out.1
            exact ⟨_, List.getElem?_eq_getElem (by omega)⟩
          rw [hx3] at c3
          have hs := HO.out.stored 3 (.int .u8 83)
          have hb := HB.out.setCell (p := ⟨g, 3, none⟩) hg (.int .u8 83)
          have e := HS3.out (l)
          rw [if_neg h1] at e
          clear hx3 h1
          go_upto_region 14 with fail
          by_cases h2 : z2 = 0
          · rw [if_pos h2] at e
            subst h2
            go_wp2
            go_meet
            exact ⟨by rw [e, ← bc_set]; exact hs.1, hb⟩
          · have h21 : ¬ (z2 : Int) = 0 := by omega
            rw [if_neg h2] at e
            have HH := Lib.hid (And.intro hs.1 hb)
            clear hs hb c3 q3 h2
            generalize wr.setCell ⟨g, 3, none⟩ (.int .u8 83) = wy at *
            have c3 := HH.out.1.cellAt 3 (by omega)
            have q3 := HH.out.1.frozenAt 3
            obtain ⟨y3, hy3⟩ : ∃ x, ((Lib.byteCells (l)).set 3 (.int .u8 83))[3]? = some x := by
              have := HO.out.1
              exact ⟨_, List.getElem?_eq_getElem (by rw [List.length_set]; omega)⟩
            rw [hy3] at c3
            have hs := HH.out.1.stored 3 (.int .u8 115)
            have hb := HH.out.2.setCell (p := ⟨g, 3, none⟩) hg (.int .u8 115)
            rw [List.set_set] at hs
            clear hy3
            go_wp2
            go_meet
            exact ⟨by rw [e, ← bc_set]; exact hs.1, hb⟩
      case rest =>
        obtain ⟨ho, hb⟩ := hcut
        clear HO HB
        have HO := Lib.hid ho
        have HB := Lib.hid hb
        clear ho hb
        go_upto_if 53 with fail
        go_cut [] from 51 to 60 (fun wx => wx.ownsRow w'.heap.size 5 1 (.slice (some ⟨g, 0, none⟩) 10 cap) 10 (Lib.byteCells (R9 (R3 l))) ∧ Below w'.heap.size w' wx)
        case first =>
          by_cases h1 : z3 = 0
          · have e : R9 (R3 l) = (R3 l) := by rw [HS9.out, if_pos h1]
            subst h1
            go_wp2
            go_meet
            exact ⟨by rw [e]; exact HO.out, HB.out⟩
          · have h11 : ¬ (z3 : Int) = 0 := by omega
            have c3 := HO.out.cellAt 9 (by omega)
            have q3 := HO.out.frozenAt 9
            obtain ⟨x3, hx3⟩ : ∃ x, (Lib.byteCells ((R3 l)))[9]? = some x := by
              have := HO.out.1
              exact ⟨_, List.getElem?_eq_getElem (by omega)⟩
            rw [hx3] at c3
            have hs := HO.out.stored 9 (.int .u8 84)
            have hb := HB.out.setCell (p := ⟨g, 9, none⟩) hg (.int .u8 84)
            have e := HS9.out ((R3 l))
            rw [if_neg h1] at e
            clear hx3 h1
            go_upto_region 18 with fail
            by_cases h2 : z4 = 0
            · rw [if_pos h2] at e
              subst h2
              go_wp2
              go_meet
              exact ⟨by rw [e, ← bc_set]; exact hs.1, hb⟩
            · have h21 : ¬ (z4 : Int) = 0 := by omega
              rw [if_neg h2] at e
              have HH := Lib.hid (And.intro hs.1 hb)
              clear hs hb c3 q3 h2
              generalize wc.setCell ⟨g, 9, none⟩ (.int .u8 84) = wy at *
              have c3 := HH.out.1.cellAt 9 (by omega)
              have q3 := HH.out.1.frozenAt 9
              obtain ⟨y3, hy3⟩ : ∃ x, ((Lib.byteCells ((R3 l))).set 9 (.int .u8 84))[9]? = some x := by
                have := HO.out.1
                exact ⟨_, List.getElem?_eq_getElem (by rw [List.length_set]; omega)⟩
              rw [hy3] at c3
              have hs := HH.out.1.stored 9 (.int .u8 116)
              have hb := HH.out.2.setCell (p := ⟨g, 9, none⟩) hg (.int .u8 116)
              rw [List.set_set] at hs
              clear hy3
              go_wp2
              go_meet
              exact ⟨by rw [e, ← bc_set]; exact hs.1, hb⟩
        case rest =>
          obtain ⟨ho, hb⟩ := hcut
          clear HO HB
          have HO := Lib.hid ho
          have HB := Lib.hid hb
          clear ho hb
          obtain ⟨L, hL⟩ : ∃ L, R9 (R3 l) = L := ⟨_, rfl⟩
          rw [hL] at HO HTX
          obtain ⟨hlen, hcs⟩ := row_bytes HO.out
          have hcv := run_convert_bytes_back (P := Tryd.prog) wc 36 9 5 ⟨g, 0, none⟩ cap L Tryd.underlying36 Tryd.underlying5 Tryd.underlying9 hcs
          rw [hlen] at hcv
          clear hcs hlen hL
          go_wp2
          go_ret
          exact ⟨_, HTX.out, rfl, HB.out⟩
    | succ r =>
      obtain rfl : z = (r : Int) := by rw [HH.out.1]; omega
      have hr9 : r < 9 := by omega
      have hr0 : (0 : Int) ≤ r := by omega
      have HO : Hid (wr.ownsRow w'.heap.size 5 1 u6 (9 - r) (Lib.byteCells (khead k :: rbs m (8 - r)))) := Lib.hid (by
        have := HH.out.2.1
        rw [show 10 - (r + 1) = 9 - r by omega, show 9 - (r + 1) = 8 - r by omega] at this
        exact this)
      have HB := Lib.hid HH.out.2.2
      clear HH HO0 HB0 hk1 hk2 hk3
      have hd : (m : Int) / 2 ^ r = ((m / 2 ^ r : Nat) : Int) := by simp
      have hb : bits .and .i64 ((m : Int) / 2 ^ r) 1 = ((m / 2 ^ r &&& 1 : Nat) : Int) := by
        rw [hd]
        exact and_nat (b := 1) (by have := Nat.div_le_self m (2 ^ r); have := HM.out; unfold big; omega) (by decide)
      have HRB : Hid (∀ c : UInt8, rb m r = c → Lib.byteCells (khead k :: rbs m (8 - r)) ++ [.int .u8 (c.toNat : Int)] = Lib.byteCells (khead k :: rbs m (9 - r))) := Lib.hid (fun c hc => by
        rw [← byteCells_app, show 9 - r = (8 - r) + 1 by omega]
        show Lib.byteCells (khead k :: (rbs m (8 - r) ++ [c])) = Lib.byteCells (khead k :: (rbs m (8 - r) ++ [rb m (8 - (8 - r))]))
        rw [show 8 - (8 - r) = r by omega, hc])
      have HRE : Hid (rb m r = if (m / 2 ^ r) &&& 1 = 1 then (if r % 3 = 0 then 120 else if r % 3 = 1 then 119 else 114) else 45) := Lib.hid rfl
      generalize m / 2 ^ r &&& 1 = z at *
      clear hd
      by_cases hz : z = 1
      · obtain ⟨c, hc⟩ : ∃ c : UInt8, (if r % 3 = 0 then 120 else if r % 3 = 1 then 119 else 114) = c := ⟨_, rfl⟩
        have HCC := HRB.out c (by rw [HRE.out, if_pos hz]; exact hc)
        have hx : ∀ h : r % 3 < (⟨#[120, 119, 114]⟩ : ByteArray).size, (⟨#[120, 119, 114]⟩ : ByteArray)[r % 3]'h = c := fun h => by
          rw [← hc]
          obtain h3 | h3 | h3 : r % 3 = 0 ∨ r % 3 = 1 ∨ r % 3 = 2 := by omega
          all_goals (simp only [h3]; rfl)
        have hm3 : (r : Int) % 3 = ((r % 3 : Nat) : Int) := by omega
        have hm31 : ((r % 3 : Nat) : Int) < 3 := by omega
        subst hz
        have HC := Lib.hid HCC
        clear hc HCC HRE HRB
        generalize r % 3 = q3 at *
        go_upto_region 11 with fail
        go_wp2_with (at_builtin; refine wpList_append_own _ rfl _ _ 36 rfl w'.heap.size 5 i0 (.int .u8 0) 1 1 Tryd.underlying36 hi hz0 hz1 hz4 rfl (by decide) _ _ _ rfl (HO.out.alloc _) ⟨_, 0, none⟩ 1 1 [.int .u8 c.toNat] rfl rfl (cell_one_new _ _ _) (by simp [Value.oneCell']) (by unfold maxLen; omega) (by omega) (by have := HB.out.size; simp; omega) ?_; intro v' w5 hown' hgrow _)
        have HO1 := Lib.hid hown'
        have HB1 := Lib.hid ((HB.out.alloc HB.out.size _).grown hgrow (by have := HB.out.size; rw [World.size_alloc]; omega) (own_ge HO.out))
        clear hgrow hown'
        go_wp2
        go_roundw
        case rel => exact ⟨r, (r : Int) - 1, by omega, by go_num, Lib.hid ⟨rfl, by have h := HO1.out; have hc := HC.out; rw [show 10 - r = 9 - r + 1 by omega, ← hc]; exact h, HB1.out⟩⟩
        case measure => simp [intOf]
      · have hzn : ¬ (z : Int) = 1 := by omega
        have HC := Lib.hid (HRB.out 45 (by rw [HRE.out, if_neg hz]))
        clear hz
        go_wp2_with (at_builtin; refine wpList_append_own _ rfl _ _ 36 rfl w'.heap.size 5 i0 (.int .u8 0) 1 1 Tryd.underlying36 hi hz0 hz1 hz4 rfl (by decide) _ _ _ rfl (HO.out.alloc _) ⟨_, 0, none⟩ 1 1 [.int .u8 45] rfl rfl (cell_one_new _ _ _) (by simp [Value.oneCell']) (by unfold maxLen; omega) (by omega) (by have := HB.out.size; simp; omega) ?_; intro v' w5 hown' hgrow _)
        have HO1 := Lib.hid hown'
        have HB1 := Lib.hid ((HB.out.alloc HB.out.size _).grown hgrow (by have := HB.out.size; rw [World.size_alloc]; omega) (own_ge HO.out))
        clear hgrow hown'
        go_wp2
        go_roundw
        case rel => exact ⟨r, (r : Int) - 1, by omega, by go_num, Lib.hid ⟨rfl, by have h := HO1.out; have hc := HC.out; rw [show 10 - r = 9 - r + 1 by omega, ← hc]; exact h, HB1.out⟩⟩
        case measure => simp [intOf]
end Go.Proofs.YtpoicdpfjmeehaaDoor
