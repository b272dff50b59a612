/- A user's name, places; may a user be? -/
import Derived.Test.YtmfbmjnoepcigaaGreatDoorF
import Derived.Test.YtmfbmjnoepcigaaGreatDoorPe
import Derived.Test.YtmfbmjnoepcigaaGreatDoorMe
namespace Go.Proofs.YtmfbmjnoepcigaaGreatDoor
open Go.RowKit

def alnset : Bytes := [97, 98, 99, 100, 101, 102, 103, 104, 105, 106, 107, 108, 109, 110, 111, 112, 113, 114, 115, 116, 117, 118, 119, 120, 121, 122, 48, 49, 50, 51, 52, 53, 54, 55, 56, 57]
theorem alnset0 : ∀ j : Fin 256, alnset.contains (UInt8.ofNat j.val) = isAln (UInt8.ofNat j.val) := by decide +kernel
theorem alnset_is (c : UInt8) : alnset.contains c = isAln c := by
  have := alnset0 ⟨c.toNat, c.toNat_lt⟩
  simpa using this
theorem trim_nil (l : Bytes) : Lib.trimS l alnset = [] ↔ l.all isAln = true := by
  unfold Lib.trimS Lib.trimLeftS Lib.trimRightS
  have hp : (fun x => alnset.contains x) = isAln := funext alnset_is
  show List.dropWhile (fun x => alnset.contains x) (List.dropWhile (fun x => alnset.contains x) l.reverse).reverse = [] ↔ _
  rw [hp, Mx.dw_nil, List.all_eq_true]
  constructor
  · intro h x hx
    have h2 : ∀ x ∈ l.reverse.dropWhile isAln, isAln x = true := fun x hx => h x (List.mem_reverse.2 hx)
    exact Mx.drop_all h2 x (List.mem_reverse.2 hx)
  · intro h x hx
    exact h x (List.mem_reverse.1 ((List.dropWhile_sublist isAln).subset (List.mem_reverse.1 hx)))
theorem trim_any (s : ByteArray) (w : World) (hs : s.size ≤ 1000000000000000000) :
    Calls Tryz.prog 52 #[.string s, .string ⟨#[97, 98, 99, 100, 101, 102, 103, 104, 105, 106, 107, 108, 109, 110, 111, 112, 113, 114, 115, 116, 117, 118, 119, 120, 121, 122, 48, 49, 50, 51, 52, 53, 54, 55, 56, 57]⟩] w fun e w' => ∃ t : ByteArray, e = .returned (.string t) ∧ t.toList.isEmpty = s.data.toList.all isAln ∧ Below w.heap.size w w' := by
  refine (Any.strings_Trim_laid Tryz.lays160 (by kernel_rfl) s ⟨#[97, 98, 99, 100, 101, 102, 103, 104, 105, 106, 107, 108, 109, 110, 111, 112, 113, 114, 115, 116, 117, 118, 119, 120, 121, 122, 48, 49, 50, 51, 52, 53, 54, 55, 56, 57]⟩ w (by omega) (by decide) (ascii_of_all (by decide))).mono ?_
  rintro e w' ⟨rfl, hb⟩
  refine ⟨_, rfl, ?_, hb⟩
  rw [toList_data]
  show (Lib.trimS s.data.toList alnset).isEmpty = _
  rw [Bool.eq_iff_iff, List.isEmpty_iff, trim_nil]
theorem head_data {s : ByteArray} (h : 0 < s.size) : headLow s.data.toList = isLow s[0] := by
  cases hd : s.data.toList with
  | nil => have := sz s; rw [hd] at this; simp at this; omega
  | cons c l =>
    have e : s[0] = c := by
      have h1 : s.data.toList[0]? = some s[0] := by
        rw [List.getElem?_eq_getElem (by rw [sz]; exact h)]; rfl
      rw [hd] at h1
      simpa using h1.symm
    rw [e]; rfl
theorem emp_of {s : ByteArray} (h : 0 < s.size) : s.toList.isEmpty = false := by
  rw [toList_data]
  cases hh : s.data.toList with
  | nil => have := sz s; rw [hh] at this; simp at this; omega
  | cons => rfl
theorem nameB_nil : nameB [] = false := rfl
set_option maxHeartbeats 1000000 in
theorem name_any (s : ByteArray) (w : World) (hs : s.size ≤ 140737488351232) :
    Calls Tryz.prog 38 #[.string s] w fun e w' => e = .returned (.bool (nameB s.data.toList)) ∧ Below w.heap.size w w' := by
  by_cases h0 : s.size = 0
  · have h1 : s.data.toList = [] := by have := sz s; rw [h0] at this; exact List.length_eq_zero_iff.1 this
    have h2 : s.toList = [] := by rw [toList_data]; exact h1
    have H1 : Hid (nameB s.data.toList = false) := Lib.hid (by rw [h1]; rfl)
    clear h1 h0
    go_enter Tryz.func38, Tryz.ntmps38
    go_wp2
    go_ret
    exact ⟨by rw [H1.out]; rfl, Below.refl _ _⟩
  · have hpos : 0 < s.size := by omega
    have h2 := emp_of hpos
    have HH := Lib.hid (head_data hpos)
    have hp1 : (0 : Int) < s.size := by omega
    by_cases h8 : s.size ≤ 8
    · have h81 : (s.size : Int) ≤ 8 := by omega
      have HL : Hid (s.data.toList.length ≤ 8) := Lib.hid (by rw [sz]; exact h8)
      by_cases ha : (97 : Int) ≤ s[0].toNat
      · by_cases hb : (s[0].toNat : Int) ≤ 122
        · have HLOW : Hid (headLow s.data.toList = true) := Lib.hid (by rw [HH.out]; unfold isLow; simp; omega)
          have HT := Lib.hid (fun W => trim_any s W (by omega))
          clear hs
          go_enter Tryz.func38, Tryz.ntmps38
          go_wp2_with fail
          refine (HT.out _).mono ?_
          rintro e w' ⟨t, rfl, ht, hbb⟩
          have HB := Lib.hid hbb
          have HN : Hid (nameB s.data.toList = t.toList.isEmpty) := Lib.hid (by rw [ht]; unfold nameB; rw [HLOW.out, decide_eq_true HL.out]; simp)
          clear hbb ht
          cases hq : t.toList.isEmpty with
          | true =>
            have HQ := Lib.hid hq
            go_wp2
            go_ret
            exact ⟨by rw [HN.out, HQ.out]; rfl, HB.out⟩
          | false =>
            have HQ := Lib.hid hq
            go_wp2
            go_ret
            exact ⟨by rw [HN.out, HQ.out]; rfl, HB.out⟩
        · have HN : Hid (nameB s.data.toList = false) := Lib.hid (by unfold nameB; rw [HH.out]; have : isLow s[0] = false := by unfold isLow; simp; omega
                                                                     rw [this]; simp)
          go_enter Tryz.func38, Tryz.ntmps38
          go_wp2
          go_ret
          exact ⟨by rw [HN.out]; rfl, Below.refl _ _⟩
      · have HN : Hid (nameB s.data.toList = false) := Lib.hid (by unfold nameB; rw [HH.out]; have : isLow s[0] = false := by unfold isLow; simp; omega
                                                                   rw [this]; simp)
        go_enter Tryz.func38, Tryz.ntmps38
        go_wp2
        go_ret
        exact ⟨by rw [HN.out]; rfl, Below.refl _ _⟩
    · have h81 : ¬ (s.size : Int) ≤ 8 := by omega
      have HN : Hid (nameB s.data.toList = false) := Lib.hid (by unfold nameB; rw [decide_eq_false (by rw [sz]; exact h8)]; simp)
      clear h8
      go_enter Tryz.func38, Tryz.ntmps38
      go_wp2
      go_ret
      exact ⟨by rw [HN.out]; rfl, Below.refl _ _⟩
theorem contains_idx (l : Bytes) (c : UInt8) : l.contains c = decide (0 ≤ Lib.indexByte l c) := by
  rcases idx_cases l c with h | ⟨i, h⟩
  · rw [h]
    have := no_d h
    simpa using this
  · rw [h]
    obtain ⟨_, _, h3⟩ := at_d h
    have : c ∈ l := by rw [h3]; simp
    have h1 : l.contains c = true := List.contains_iff_mem.2 this
    rw [h1]
    simp
theorem own_form {w : World} {base n : Nat} {v : Value} {xs : List Value} (h : w.ownsRow base 9 1 v n xs) : ∃ a m c, v = .slice a m c := by
  obtain ⟨_, ⟨rfl, _⟩ | ⟨g, cap, cur, rfl, _⟩⟩ := h
  · exact ⟨_, _, _, rfl⟩
  · exact ⟨_, _, _, rfl⟩
set_option maxHeartbeats 1000000 in
theorem place_any (s : ByteArray) (w : World) (hs : s.size ≤ 140737488351232) :
    Calls Tryz.prog 40 #[.string s] w fun e w' => e = .returned (.bool (placeB s.data.toList)) ∧ Below w.heap.size w w' := by
  go_enter Tryz.func40, Tryz.ntmps40
  go_wp2_with fail
  refine (Pp.split_any s _ hs).mono ?_
  rintro e w1 ⟨abs, dir, v, l, err, rfl, hown, hb, hsp⟩
  obtain ⟨sa, sn, sc, rfl⟩ := own_form hown
  have HB := Lib.hid hb
  have HSP : Hid (placeB s.data.toList = (decide (err = 0) && abs && !s.data.toList.contains 58)) := Lib.hid (by unfold placeB; rw [hsp])
  clear hown hb hsp
  by_cases he : err = 0
  · subst he
    cases abs with
    | true =>
      cases hc : decide (0 ≤ Lib.indexByte s.data.toList 58) with
      | true =>
        have HC : Hid (placeB s.data.toList = false) := Lib.hid (by rw [HSP.out, contains_idx, hc]; rfl)
        go_wp2_with fail
        refine (Tryz.strings_Contains_one s 58 _).mono ?_
        rw [hc]
        rintro e w2 ⟨rfl, rfl⟩
        go_wp2
        go_ret
        exact ⟨by rw [HC.out]; rfl, HB.out.alloc HB.out.size _⟩
      | false =>
        have HC : Hid (placeB s.data.toList = true) := Lib.hid (by rw [HSP.out, contains_idx, hc]; rfl)
        go_wp2_with fail
        refine (Tryz.strings_Contains_one s 58 _).mono ?_
        rw [hc]
        rintro e w2 ⟨rfl, rfl⟩
        go_wp2
        go_ret
        exact ⟨by rw [HC.out]; rfl, HB.out.alloc HB.out.size _⟩
    | false =>
      have HC : Hid (placeB s.data.toList = false) := Lib.hid (by rw [HSP.out]; simp)
      go_wp2
      go_ret
      exact ⟨by rw [HC.out]; rfl, HB.out.alloc HB.out.size _⟩
  · have he1 : (err == 0) = false := by simpa using he
    have HC : Hid (placeB s.data.toList = false) := Lib.hid (by rw [HSP.out, decide_eq_false he]; simp)
    clear he
    go_wp2
    go_ret
    exact ⟨by rw [HC.out]; rfl, HB.out.alloc HB.out.size _⟩
theorem box_six {w w1 : World} {f : UserS} {u : TypeId} (hb : Below (w.alloc (.cells (userC f) u)).heap.size (w.alloc (.cells (userC f) u)) w1) : UC w1 w.heap.size 0 f := by
  have h : ∀ (i : Nat) (v : Value), (userC f)[i]? = some v → w1.cell? ⟨w.heap.size, i, none⟩ = some v := fun i v hv => by
    rw [hb.cell (p := ⟨w.heap.size, i, none⟩) (by simp), heap_cell (at_new w _) i]
    exact hv
  exact ⟨h 0 _ rfl, h 1 _ rfl, h 2 _ rfl, h 3 _ rfl, h 4 _ rfl, h 5 _ rfl⟩
theorem passB_of (f : ByteArray) : passB f.data.toList = true ↔ Mx.RightP f := by
  unfold passB Mx.RightP
  simp only [Bool.or_eq_true, decide_eq_true_eq, fieldB_iff, or_assoc]
theorem pass_any (f : ByteArray) (w : World) (hf : f.size ≤ 140737488351232) :
    Calls Tryz.prog 39 #[.string f] w fun e w' => e = .returned (.bool (passB f.data.toList)) ∧ Below w.heap.size w w' := by
  refine (Mx.right_any f w hf).mono ?_
  rintro e w' ⟨r, rfl, hr, hb⟩
  refine ⟨?_, hb⟩
  have : r = passB f.data.toList := by rw [Bool.eq_iff_iff, hr, passB_of]
  rw [this]
/-- A user's texts are within the form's reach. -/
structure SzU (u : UserS) : Prop where
  name : u.name.size ≤ 140737488351232
  pass : u.pass.size ≤ 140737488351232
  home : u.home.size ≤ 140737488351232
  shell : u.shell.size ≤ 140737488351232
theorem UC.below {w w' : World} {b o : Nat} {f : UserS} (h : UC w b o f) (hb : Below w.heap.size w w') : UC w' b o f := by
  have k : ∀ i v, w.cell? ⟨b, i, none⟩ = some v → w'.cell? ⟨b, i, none⟩ = some v := fun i v hv => by
    rw [hb.cell (p := ⟨b, i, none⟩) (World.block_lt_of_cell? w _ hv)]; exact hv
  exact ⟨k _ _ h.g0, k _ _ h.g1, k _ _ h.g2, k _ _ h.g3, k _ _ h.g4, k _ _ h.g5⟩
/-- A box's cells, as a walk reads them. -/
theorem UC.at0 {w : World} {b : Nat} {f : UserS} (h : UC w b 0 f) : w.cell? ⟨b, 0, none⟩ = some (.string f.name) ∧ w.cell? ⟨b, 1, none⟩ = some (.string f.pass) ∧ w.cell? ⟨b, 2, none⟩ = some (.int .i64 f.id) ∧ w.cell? ⟨b, 3, none⟩ = some (.int .i64 f.group) ∧ w.cell? ⟨b, 4, none⟩ = some (.string f.home) ∧ w.cell? ⟨b, 5, none⟩ = some (.string f.shell) :=
  ⟨h.g0, h.g1, h.g2, h.g3, h.g4, h.g5⟩
set_option maxHeartbeats 4000000 in
set_option maxRecDepth 100000 in
theorem may_any (u : UserS) (w : World) (hu : SzU u) :
    Calls Tryz.prog 24 #[.agg (userC u)] w fun e w' => e = .returned (.bool (mayB u)) ∧ Below w.heap.size w w' := by
  have HU := Lib.hid hu
  clear hu
  have HM : Hid (mayB u = (nameB u.name.data.toList && passB u.pass.data.toList && (decide (0 ≤ u.id) && decide (u.id ≤ 65535)) && (decide (0 ≤ u.group) && decide (u.group ≤ 65535)) && placeB u.home.data.toList && placeB u.shell.data.toList)) := Lib.hid rfl
  unfold userC
  go_enter Tryz.func24, Tryz.ntmps24
  go_wp2_with fail
  refine (name_any u.name _ HU.out.name).mono ?_
  rintro e w1 ⟨rfl, hb⟩
  have hc : UC w1 w.heap.size 0 u := box_six (u := 29) hb
  have HB1 := Lib.hid (((Below.refl w.heap.size w).alloc (Nat.le_refl _) (.cells (userC u) 29)).trans (hb.mono (by simp)))
  clear hb
  cases hn : nameB u.name.data.toList with
  | false =>
    rw [hn] at HM
    clear hc
    go_wp2
    go_ret
    exact ⟨by rw [HM.out]; simp, HB1.out⟩
  | true =>
    rw [hn] at HM
    have HC1 := Lib.hid hc
    obtain ⟨c0, c1, c2, c3, c4, c5⟩ := hc.at0
    clear hc hn
    go_wp2_with fail
    refine (pass_any u.pass _ HU.out.pass).mono ?_
    rintro e w2 ⟨rfl, hb⟩
    have hc := HC1.out.below hb
    have HB2 := Lib.hid (HB1.out.trans (hb.mono HB1.out.size))
    clear hb c0 c1 c2 c3 c4 c5 HC1 HB1
    cases hn : passB u.pass.data.toList with
    | false =>
      rw [hn] at HM
      clear hc
      go_wp2
      go_ret
      exact ⟨by rw [HM.out]; simp, HB2.out⟩
    | true =>
      rw [hn] at HM
      have HC2 := Lib.hid hc
      obtain ⟨c0, c1, c2, c3, c4, c5⟩ := hc.at0
      clear hc hn
      by_cases h1 : (0 : Int) ≤ u.id
      · by_cases h2 : u.id ≤ 65535
        · by_cases h3 : (0 : Int) ≤ u.group
          · by_cases h4 : u.group ≤ 65535
            · rw [decide_eq_true h1, decide_eq_true h2, decide_eq_true h3, decide_eq_true h4] at HM
              go_wp2_with fail
              refine (place_any u.home _ HU.out.home).mono ?_
              rintro e w3 ⟨rfl, hb⟩
              have hc := HC2.out.below hb
              have HB3 := Lib.hid (HB2.out.trans (hb.mono HB2.out.size))
              clear hb c0 c1 c2 c3 c4 c5 HC2 HB2
              cases hn : placeB u.home.data.toList with
              | false =>
                rw [hn] at HM
                clear hc
                go_wp2
                go_ret
                exact ⟨by rw [HM.out]; simp, HB3.out⟩
              | true =>
                rw [hn] at HM
                obtain ⟨c0, c1, c2, c3, c4, c5⟩ := hc.at0
                clear hc hn
                go_wp2_with fail
                refine (place_any u.shell _ HU.out.shell).mono ?_
                rintro e w4 ⟨rfl, hb⟩
                have HB4 := Lib.hid (HB3.out.trans (hb.mono HB3.out.size))
                clear hb c0 c1 c2 c3 c4 c5 HB3
                cases hn : placeB u.shell.data.toList with
                | false =>
                  rw [hn] at HM
                  clear hn
                  go_wp2
                  go_ret
                  exact ⟨by rw [HM.out]; simp, HB4.out⟩
                | true =>
                  rw [hn] at HM
                  clear hn
                  go_wp2
                  go_ret
                  exact ⟨by rw [HM.out]; simp, HB4.out⟩
            · rw [decide_eq_false h4] at HM
              go_wp2
              go_ret
              exact ⟨by rw [HM.out]; simp, HB2.out⟩
          · rw [decide_eq_false h3] at HM
            go_wp2
            go_ret
            exact ⟨by rw [HM.out]; simp, HB2.out⟩
        · rw [decide_eq_false h2] at HM
          go_wp2
          go_ret
          exact ⟨by rw [HM.out]; simp, HB2.out⟩
      · rw [decide_eq_false h1] at HM
        go_wp2
        go_ret
        exact ⟨by rw [HM.out]; simp, HB2.out⟩
end Go.Proofs.YtmfbmjnoepcigaaGreatDoor
