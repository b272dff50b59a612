/- shown. -/
import Derived.Test.YtmfbmjnoepcigaaGreatDoorO
namespace Go.Proofs.YtmfbmjnoepcigaaGreatDoor
open Go.RowKit

def rootU : UserS := ⟨⟨#[114, 111, 111, 116]⟩, ⟨#[]⟩, 0, 0, ⟨#[47]⟩, ⟨#[47, 98, 105, 110, 47, 115, 104]⟩⟩
def rootT : ByteArray := ⟨#[114, 111, 111, 116, 58, 58, 48, 58, 48, 58, 47, 58, 47, 98, 105, 110, 47, 115, 104, 10]⟩
def rootS : ByteArray := ⟨#[114, 111, 111, 116, 58, 58, 48, 58, 48, 58, 47, 58, 47, 98, 105, 110, 47, 115, 104]⟩
theorem root_may : mayB rootU = true := by decide +kernel
theorem root_right : RightU [rootU] := ⟨by simp, (fun u hu => by simp at hu; rw [hu]; exact root_may), by simp [namesU]⟩
theorem root_line : lineB rootU = rootS.data.toList := by
  unfold lineB
  rw [show rootU.id.toNat = 0 from rfl, show rootU.group.toNat = 0 from rfl, decD_le (by omega)]
  rfl
theorem root_print : printB [rootU] = rootT.data.toList := by
  rw [printB_cons, printB_nil, root_line]
  rfl
theorem root_parse : parseR rootT.data.toList = ([rootU], 0, 0) := by
  refine parse_ok (by decide) ?_
  rw [← root_print]
  exact parse_of root_right 1
theorem root_last : parseR rootS.data.toList = ([], 1, 17) := parse_err (by decide) (parseL_last (by decide) (by decide))
theorem OwnU.first {w : World} {B : Nat} {v : Value} {u : UserS} {L : List UserS} (h : OwnU w B v (u :: L)) : ∃ g c, v = .slice (some ⟨g, 0, none⟩) (u :: L).length c ∧ UC w g 0 u := by
  have hI := own_inU h
  obtain ⟨_, ⟨_, h0⟩ | ⟨g, cap, cur, rfl, rest⟩⟩ := h
  · simp at h0
  · refine ⟨g, cap, rfl, ?_⟩
    obtain ⟨b, off, hb, hu⟩ := hI.uc (Below.refl _ _) (k := 0) (by simp)
    simp at hb
    obtain ⟨rfl, rfl⟩ := hb
    simpa using hu
set_option maxHeartbeats 4000000 in
set_option maxRecDepth 100000 in
theorem shown_any (w : World) (hW : HasW w) : Calls Tryz.prog 6 #[] w fun e w' => e = .returned (.bool true) ∧ Below w.heap.size w w' := by
  have HW := Lib.hid hW
  have HP1 := Lib.hid (parse_any rootT w hW)
  clear hW
  unfold rootT at HP1
  go_enter Tryz.func6, Tryz.ntmps6
  go_wp2_with fail
  refine HP1.out.mono ?_
  rintro e w1 ⟨v1, rfl, ho, hb⟩
  have hr : parseR (⟨#[114, 111, 111, 116, 58, 58, 48, 58, 48, 58, 47, 58, 47, 98, 105, 110, 47, 115, 104, 10]⟩ : ByteArray).data.toList = ([rootU], 0, 0) := root_parse
  rw [hr] at ho
  rw [hr]
  clear hr HP1
  have HB1 := Lib.hid hb
  have HO1 := Lib.hid ho
  clear hb ho
  have HP2 := Lib.hid (parse_any rootS w1 (HW.out.below HB1.out))
  unfold rootS at HP2
  obtain ⟨g, c, rfl, _⟩ := HO1.out.first
  go_wp2_with fail
  refine HP2.out.mono ?_
  rintro e w2 ⟨v2, rfl, _, hb⟩
  have hr : parseR (⟨#[114, 111, 111, 116, 58, 58, 48, 58, 48, 58, 47, 58, 47, 98, 105, 110, 47, 115, 104]⟩ : ByteArray).data.toList = ([], 1, 17) := root_last
  rw [hr]
  clear hr HP2
  have HO2 := Lib.hid (HO1.out.grown hb)
  have HB2 := Lib.hid (HB1.out.trans (hb.mono HB1.out.size))
  clear hb HO1
  obtain ⟨g', c', hv, hu⟩ := HO2.out.first
  simp at hv
  obtain ⟨rfl, rfl⟩ := hv
  have c5 : w2.cell? ⟨g, 5, none⟩ = some (.string ⟨#[47, 98, 105, 110, 47, 115, 104]⟩) := hu.at0.2.2.2.2.2
  clear hu
  have hsz : ∀ u ∈ [rootU], SzU u := fun u hu => by simp at hu; rw [hu]; exact ⟨by decide, by decide, by decide, by decide⟩
  have HRI := Lib.hid (right_any _ [rootU] w2 (own_inU HO2.out) (by simp) hsz)
  have HSZ := Lib.hid hsz
  have hrt : rightB [rootU] = true := (rightB_iff _).2 root_right
  rw [hrt] at HRI
  clear hsz
  go_wp2_with fail
  refine HRI.out.mono ?_
  rintro e w3 ⟨rfl, hb⟩
  have HO3 := Lib.hid (HO2.out.grown hb)
  have HB3 := Lib.hid (HB2.out.trans (hb.mono HB2.out.size))
  clear hb c5 HRI
  have HPR := Lib.hid (print_any _ [rootU] w3 (own_inU HO3.out) (by simp) HSZ.out (HW.out.below HB3.out))
  have hps : printS [rootU] = rootT := by
    unfold printS
    rw [if_pos hrt, root_print]
  rw [hps] at HPR
  clear hps hrt
  unfold rootT at HPR
  go_wp2_with fail
  refine HPR.out.mono ?_
  rintro e w4 ⟨rfl, hb⟩
  have HB4 := Lib.hid (HB3.out.trans (hb.mono HB3.out.size))
  clear hb
  go_wp2
  go_ret
  exact ⟨rfl, HB4.out⟩
end Go.Proofs.YtmfbmjnoepcigaaGreatDoor
