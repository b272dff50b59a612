/-
  A world for the witnesses of this seat's rows: the listed variables hold what their initialisers lay; and what the listed variables give the walks.
-/
import Derived.Test.YtmfbmjnoepcigaaGreatDoorRows
import Derived.Test.YtmfbmjnoepcigaaGreatDoorJ
import Derived.WalkKit
import Derived.ProofKit
import Derived.Lay
import Derived.LaidLaws
import Derived.MakeChecks
import Derived.Lib.LaidTab
import Derived.Deep.DeepHandedRow
namespace Go.Proofs.YtmfbmjnoepcigaaGreatDoor
open Go.RowKit

theorem own : ownKnob Tryz.prog.godebug = none := by kernel_rfl

def tables : List (String × DataW Unit) := [("math/bits.deBruijn32tab", Rows.laid_math_bits_deBruijn32tab), ("math/bits.deBruijn64tab", Rows.laid_math_bits_deBruijn64tab), ("internal/strconv.uint64pow10", Rows.laid_internal_strconv_uint64pow10), ("unicode/utf8.acceptRanges", Rows.laid_unicode_utf8_acceptRanges), ("strconv.ErrRange", Rows.laid_strconv_ErrRange), ("strconv.ErrSyntax", Rows.laid_strconv_ErrSyntax), ("unicode/utf8.first", Rows.laid_unicode_utf8_first)]

noncomputable def laidWorld (os : Os) : World := World.laidAll Tryz.prog os tables

set_option maxRecDepth 100000 in
theorem laid_met (os : Os) (args : Array Value) : laidMet Tryz.prog tables ((laidWorld os).forCall (fun _ _ => 0) ⟨#[], args, []⟩).memory :=
  laidMet_laidAll _ (by kernel_rfl) (by kernel_rfl)

theorem laid_tail {P : Program} {W : World} {x : String × DataW Unit} {rest : List (String × DataW Unit)} (h : laidMet P (x :: rest) W) : laidMet P rest W := by
  obtain ⟨ps, hv, hnd, hm⟩ := h
  obtain ⟨g, t, cs, fuel, p, q, h1, h2, h3, h4, h5, rfl⟩ := hv
  exact ⟨q, h5, (List.nodup_append.1 hnd).2.1, fun b off hb => hm b off (List.mem_append_right _ hb)⟩
theorem err_cell {W : World} {name : String} {d : DataW Unit} {rest : List (String × DataW Unit)} {g : Nat} (h : laidMet Tryz.prog ((name, d) :: rest) W) (hg : Tryz.prog.globalNamed name = some g) (ht : (Tryz.prog.globals[g]?).map (·.type) = some 49) {n : String} {e : DataW Unit} (hd : d = .iface n e) :
    ∃ u v, W.cell? ⟨g, 0, none⟩ = some (.iface u v) := by
  obtain ⟨ps, ⟨g', t', cs, fuel, p, q, hg', ht', hv, hd', _⟩, _⟩ := h
  obtain rfl := Option.some.inj (hg.symm.trans hg')
  obtain rfl := Option.some.inj (ht.symm.trans ht')
  subst hd
  obtain ⟨f2, u, v, hcs, _, _⟩ := iface_of_trod Tryz.underlying49 hd'
  refine ⟨u, v, ?_⟩
  rw [World.var?_cell hg hv 0]
  have : cs.toList[0]? = some (.iface u v) := by rw [hcs]; rfl
  simpa using this
set_option maxRecDepth 100000 in
theorem has_w {W : World} (h : laidMetH Tryz.prog tables W) (hS : W.ShapedOpen Tryz.prog) : HasW W := by
  rw [MakeChecks.laidMetH_plain _ _ _ (by kernel_rfl)] at h
  have h3 := laid_tail (laid_tail h)
  have h5 := laid_tail (laid_tail h3)
  have h6 := laid_tail h5
  refine ⟨Tryz.laysM146.s1_3 W hS, err_cell h6 (by kernel_rfl) (by kernel_rfl) rfl, err_cell h5 (by kernel_rfl) (by kernel_rfl) rfl, ?_⟩
  exact Lib.tabIs_of_head (g := 3) (by kernel_rfl) (by kernel_rfl) Tryz.underlying125 (by kernel_rfl) (by kernel_rfl) (by kernel_rfl) h3
end Go.Proofs.YtmfbmjnoepcigaaGreatDoor
