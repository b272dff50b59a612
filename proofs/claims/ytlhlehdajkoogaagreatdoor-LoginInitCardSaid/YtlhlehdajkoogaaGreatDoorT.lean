/- An argument that is a row of numbers, opened. -/
import Derived.Test.YtlhlehdajkoogaaGreatDoorS
import Derived.ChangeSlices
import Derived.Carry
import Derived.Deep.Slices
import Derived.Lib.SmallJoins
import Derived.ChangeArms
import Derived.SizedLaws
import Derived.DataReads
namespace Go.Proofs.YtlhlehdajkoogaaGreatDoor
open Go.ChangeShapes Go.WideShapes Go.ChangeAt Go.RowKit

theorem laidOut : laidOutB Tryz.prog = true := by kernel_rfl
theorem cells3 : Tryz.prog.cellsOf 3 = 1 := by kernel_rfl
theorem in_ints {H : Type} {enc : TypeId × Value → H} {W : World} {A : Option Addr} {n c : Nat} {d : DataW H} {p : List MemPlace} (h : DataW.Trod enc Tryz.prog W 0 (fun _ => true) true 58 (.slice A n c) d p) :
    ∃ G, Ints W (.slice A n c) G := by
  obtain ⟨fuel, hf⟩ := h
  rcases open_ints Tryz.underlying58 Tryz.underlying3 cells3 hf with ⟨hcs, hx⟩ | ⟨a, len, cap, zs, hcs, _, hl, hm, hz, hx, hcell, hwf⟩
  · simp [Value.cells] at hcs
    obtain ⟨rfl, rfl, rfl⟩ := hcs
    exact ⟨[], none, 0, rfl, fun j hj => by cases hj⟩
  · simp [Value.cells] at hcs
    obtain ⟨rfl, rfl, rfl⟩ := hcs
    simp only [if_true] at hz
    have hlen : (zs.take n).length = n := by rw [List.length_take]; omega
    refine ⟨zs.take n, _, c, by rw [hlen], fun j hj => ?_⟩
    rw [hlen] at hj
    obtain ⟨b, off, spot⟩ := a
    have hspot : spot = none := by simpa [Addr.add] using World.cell?_spot (hcell 0 (by omega))
    subst hspot
    have hjz : j < zs.length := by omega
    have hw := hwf (zs[j]) (List.getElem_mem hjz)
    have hc := hcell j hjz
    rw [add_off, List.getD_eq_getElem?_getD, List.getElem?_eq_getElem hjz] at hc
    have hw2 : IntKind.i64.min ≤ zs[j] ∧ zs[j] ≤ IntKind.i64.max := by simpa [Lit.wf] using hw
    refine ⟨b, off, rfl, ?_, ?_, ?_⟩
    · rw [List.getElem_take]; exact hc
    · rw [List.getElem_take]; exact hw2.1
    · rw [List.getElem_take]; exact hw2.2
end Go.Proofs.YtlhlehdajkoogaaGreatDoor
