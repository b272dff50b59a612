/- The document's place, may. -/
import Derived.Test.YtmfbmjnoepcigaaGreatDoorRe
import Derived.Test.YtmfbmjnoepcigaaGreatDoorRm
import Derived.Test.YtmfbmjnoepcigaaGreatDoorRp
import Derived.Test.YtmfbmjnoepcigaaGreatDoorJ
namespace Go.Proofs.YtmfbmjnoepcigaaGreatDoor
open Go.RowKit

theorem rpass_any (f : ByteArray) (w : World) (hf : f.size ≤ 140737488351232) :
    Calls Tryz.prog 42 #[.string f] w fun e w' => e = .returned (.bool (passB f.data.toList)) ∧ Below w.heap.size w w' := by
  refine (Mx.rright_any f w hf).mono ?_
  rintro e w' ⟨r, rfl, hr, hb⟩
  refine ⟨?_, hb⟩
  have : r = passB f.data.toList := by rw [Bool.eq_iff_iff, hr, passB_of]
  rw [this]
def NoCol (s : ByteArray) (k : Nat) : Prop := ∀ j (h : j < s.size), j < k → s[j] ≠ 58
theorem nocol_all {s : ByteArray} (h : NoCol s s.size) : s.data.toList.contains 58 = false := by
  cases hc : s.data.toList.contains 58 with
  | false => rfl
  | true =>
    exfalso
    have hm : (58 : UInt8) ∈ s.data.toList := List.contains_iff_mem.1 hc
    obtain ⟨j, hj, he⟩ := List.getElem_of_mem hm
    rw [sz] at hj
    exact h j hj (by omega) he
theorem nocol_not {s : ByteArray} {k : Nat} (hk : k < s.size) (h : s[k] = 58) : s.data.toList.contains 58 = true := by
  refine List.contains_iff_mem.2 ?_
  rw [← h]
  exact List.mem_of_getElem? (get_at s k hk)
theorem own_form9 {w : World} {base n : Nat} {v : Value} {xs : List Value} (h : w.ownsRow base 9 1 v n xs) : ∃ a m c, v = .slice a m c := own_form h
set_option maxHeartbeats 2000000 in
set_option maxRecDepth 100000 in
theorem rplace_any (s : ByteArray) (w : World) (hs : s.size ≤ 1048576) :
    Calls Tryz.prog 43 #[.string s] w fun e w' => e = .returned (.bool (placeB s.data.toList)) ∧ Below w.heap.size w w' := by
  have hs1 : (s.size : Int) ≤ 1048576 := by omega
  go_enter Tryz.func43, Tryz.ntmps43
  go_wp2_with fail
  refine (Pp.rsplit_any s _ hs).mono ?_
  rintro e w1 ⟨abs, dir, v, l, err, rfl, hown, hb, hsp⟩
  obtain ⟨sa, sn, sc, rfl⟩ := own_form hown
  have HSP : Hid (placeB s.data.toList = (decide (err = 0) && abs && !s.data.toList.contains 58)) := Lib.hid (by unfold placeB; rw [hsp])
  have hb2 : Below w1.heap.size w1 (w1.alloc (.cells #[.bool abs, .slice sa sn sc, .bool dir] 76)) := (Below.refl _ _).alloc (Nat.le_refl _) _
  have hc0 : (w1.alloc (.cells #[.bool abs, .slice sa sn sc, .bool dir] 76)).cell? ⟨w1.heap.size, 0, none⟩ = some (.bool abs) := by rw [heap_cell (at_new w1 _) 0]; rfl
  have HB := Lib.hid (hb.trans (hb2.mono hb.size))
  have HC0 := Lib.hid hc0
  clear hown hb hsp hb2 hc0 hs
  go_upto_region 2 with fail
  generalize w1.alloc (.cells #[.bool abs, .slice sa sn sc, .bool dir] 76) = w2 at *
  generalize w1.heap.size = n0 at *
  go_wp2
  go_loopw [5] (fun v5 wr => ∃ k : Nat, k ≤ s.size ∧ v5 = .int .i64 k ∧ wr = w2 ∧ Hid (NoCol s k)) (fun v5 _ => s.size - (intOf v5).toNat)
  case atStart => exact ⟨0, Nat.zero_le _, rfl, rfl, Lib.hid fun j _ h => by omega⟩
  case round =>
    obtain ⟨k, hk, rfl, rfl, HH⟩ := hrel
    by_cases hlt : k < s.size
    · have hlt1 : (k : Int) < s.size := by omega
      by_cases hc : s[k] = 58
      · have hc1 : ((s[k].toNat : Int) == 58) = true := by rw [hc]; rfl
        have HX : Hid (placeB s.data.toList = false) := Lib.hid (by rw [HSP.out, nocol_not hlt hc]; simp)
        clear hc
        go_wp2
        go_ret
        exact ⟨by rw [HX.out]; rfl, HB.out⟩
      · have hc1 : ((s[k].toNat : Int) == 58) = false := by
          simp; exact fun h => hc (UInt8.toNat_inj.1 (by have e : (58 : UInt8).toNat = 58 := rfl; omega))
        have HX : Hid (NoCol s (k + 1)) := Lib.hid fun j hj hjk => by
          by_cases he : j = k
          · subst he; exact hc
          · exact HH.out j hj (by omega)
        clear hc
        go_wp2
        go_roundw
        case rel => exact ⟨k + 1, by omega, by go_num, trivial, HX⟩
        case measure => simp [intOf]; omega
    · have hlt1 : ¬ (k : Int) < s.size := by omega
      have hkk : k = s.size := by omega
      have HX : Hid (placeB s.data.toList = (decide (err = 0) && abs)) := Lib.hid (by rw [HSP.out, nocol_all (hkk ▸ HH.out)]; simp)
      clear hkk hlt hk
      have c0 := HC0.out
      by_cases he : err = 0
      · subst he
        go_wp2
        go_ret
        exact ⟨by rw [HX.out]; cases abs <;> rfl, HB.out⟩
      · have he1 : (err == 0) = false := by simpa using he
        have HX2 : Hid (placeB s.data.toList = false) := Lib.hid (by rw [HX.out, decide_eq_false he]; simp)
        clear he
        go_wp2
        go_ret
        exact ⟨by rw [HX2.out]; rfl, HB.out⟩
/-- A user's texts are small enough for the document's Split. -/
structure SzV (u : UserS) : Prop where
  name : u.name.size ≤ 140737488351232
  pass : u.pass.size ≤ 140737488351232
  home : u.home.size ≤ 1048576
  shell : u.shell.size ≤ 1048576
set_option maxHeartbeats 4000000 in
set_option maxRecDepth 100000 in
theorem rmay_any (u : UserS) (w : World) (hu : SzV u) :
    Calls Tryz.prog 25 #[.agg (userC u)] w fun e w' => e = .returned (.bool (mayB u)) ∧ Below w.heap.size w w' := by
  have HU := Lib.hid hu
  clear hu
  have HM : Hid (mayB u = (nameB u.name.data.toList && passB u.pass.data.toList && (decide (0 ≤ u.id) && decide (u.id ≤ 65535)) && (decide (0 ≤ u.group) && decide (u.group ≤ 65535)) && placeB u.home.data.toList && placeB u.shell.data.toList)) := Lib.hid rfl
  have hb0 : Below w.heap.size w (w.alloc (.cells (userC u) 29)) := (Below.refl _ _).alloc (Nat.le_refl _) _
  have hu0 : UC (w.alloc (.cells (userC u) 29)) w.heap.size 0 u := box_six (u := 29) (Below.refl _ _)
  unfold userC at *
  go_enter Tryz.func25, Tryz.ntmps25
  go_upto_region 1 with fail
  generalize w.alloc (.cells #[.string u.name, .string u.pass, .int .i64 u.id, .int .i64 u.group, .string u.home, .string u.shell] 29) = w0 at *
  have HB0 := Lib.hid hb0
  have HC0 := Lib.hid hu0
  obtain ⟨c0, c1, c2, c3, c4, c5⟩ := hu0.at0
  clear hu0 hb0
  go_wp2_with fail
  refine (rname_any u.name _ HU.out.name).mono ?_
  rintro e w1 ⟨rfl, rfl⟩
  go_wp2_with fail
  refine (rpass_any u.pass _ HU.out.pass).mono ?_
  rintro e w2 ⟨rfl, hb⟩
  have HB2 := Lib.hid (HB0.out.trans (hb.mono HB0.out.size))
  have HC2 := Lib.hid (HC0.out.below hb)
  clear hb c0 c1 c2 c3 c4 c5 HC0 HB0
  obtain ⟨c0, c1, c2, c3, c4, c5⟩ := HC2.out.at0
  go_wp2_with fail
  refine (rplace_any u.home _ HU.out.home).mono ?_
  rintro e w3 ⟨rfl, hb⟩
  have HB3 := Lib.hid (HB2.out.trans (hb.mono HB2.out.size))
  have HC3 := Lib.hid (HC2.out.below hb)
  clear hb c0 c1 c2 c3 c4 c5 HC2 HB2
  obtain ⟨c0, c1, c2, c3, c4, c5⟩ := HC3.out.at0
  go_wp2_with fail
  refine (rplace_any u.shell _ HU.out.shell).mono ?_
  rintro e w4 ⟨rfl, hb⟩
  have HB4 := Lib.hid (HB3.out.trans (hb.mono HB3.out.size))
  have HC4 := Lib.hid (HC3.out.below hb)
  clear hb c0 c1 c2 c3 c4 c5 HC3 HB3
  obtain ⟨c0, c1, c2, c3, c4, c5⟩ := HC4.out.at0
  clear HU
  generalize nameB u.name.data.toList = q1 at *
  generalize passB u.pass.data.toList = q2 at *
  generalize placeB u.home.data.toList = q3 at *
  generalize placeB u.shell.data.toList = q4 at *
  by_cases h1 : (0 : Int) ≤ u.id <;> by_cases h2 : u.id ≤ 65535 <;> by_cases h3 : (0 : Int) ≤ u.group <;> by_cases h4 : u.group ≤ 65535
  all_goals first | rw [decide_eq_true h1] at HM | rw [decide_eq_false h1] at HM
  all_goals first | rw [decide_eq_true h2] at HM | rw [decide_eq_false h2] at HM
  all_goals first | rw [decide_eq_true h3] at HM | rw [decide_eq_false h3] at HM
  all_goals first | rw [decide_eq_true h4] at HM | rw [decide_eq_false h4] at HM
  all_goals first | (exfalso; omega) | skip
  all_goals (cases q1 <;> cases q2 <;> cases q3 <;> cases q4)
  all_goals (go_wp2; go_ret; refine ⟨?_, HB4.out⟩; rw [HM.out])
  all_goals first
    | rfl
    | (show Ending.returned (.bool (decide (u.group ≤ 65535))) = _; rw [show decide (u.group ≤ 65535) = true by simp; omega]; rfl)
    | (show Ending.returned (.bool (decide (u.group ≤ 65535))) = _; rw [show decide (u.group ≤ 65535) = false by simp; omega]; rfl)
end Go.Proofs.YtmfbmjnoepcigaaGreatDoor
