/-
  A world for the witnesses of this seat's rows: the listed variables hold what their initialisers lay; and the cell of a table that the walks read.
-/
import Derived.Test.YtkdjddmjcbdhgaaDoorRows
import Derived.Test.YtkdjddmjcbdhgaaDoorC
import Derived.WalkKit
import Derived.ProofKit
import Derived.Lay
import Derived.MakeChecks
import Derived.LaidMore
import Derived.OpenShut
import Derived.Deep.DeepHandedRow
namespace Go.Proofs.YtkdjddmjcbdhgaaDoor
open Go.RowKit

theorem own : ownKnob Tryd.prog.godebug = none := by kernel_rfl

def tables : List (String × DataW Unit) := [("math/bits.deBruijn32tab", Rows.laid_math_bits_deBruijn32tab), ("math/bits.deBruijn64tab", Rows.laid_math_bits_deBruijn64tab), ("internal/strconv.uint64pow10", Rows.laid_internal_strconv_uint64pow10), ("unicode/utf8.acceptRanges", Rows.laid_unicode_utf8_acceptRanges), ("strconv.ErrRange", Rows.laid_strconv_ErrRange), ("strconv.ErrSyntax", Rows.laid_strconv_ErrSyntax), ("unicode/utf8.first", Rows.laid_unicode_utf8_first)]

noncomputable def laidWorld (os : Os) : World := World.laidAll Tryd.prog os tables

set_option maxRecDepth 100000 in
theorem laid_met (os : Os) (args : Array Value) : laidMet Tryd.prog tables ((laidWorld os).forCall (fun _ _ => 0) ⟨#[], args, []⟩).memory :=
  laidMet_laidAll _ (by kernel_rfl) (by kernel_rfl)

set_option maxRecDepth 100000 in
/-- What the listed variables hold, as the walks want it. -/
theorem tab_cell {W : World} (h : laidMetH Tryd.prog tables W) : HasT W := by
  rw [MakeChecks.laidMetH_plain _ _ _ (by kernel_rfl)] at h
  obtain ⟨ps, ⟨_, _, _, _, _, _, _, _, _, _, ⟨g, t, cs, fuel, p, q, hg, ht, hv, hd, _⟩, _⟩, _⟩ := h
  obtain rfl := Option.some.inj ((show Tryd.prog.globalNamed "math/bits.deBruijn64tab" = some 7 by kernel_rfl).symm.trans hg)
  obtain rfl := Option.some.inj ((show (Tryd.prog.globals[7]?).map (·.type) = some 113 by kernel_rfl).symm.trans ht)
  obtain ⟨xs, m, _, ex, _, hl, hel⟩ := DataW.trod_array Tryd.underlying113 hd
  have c5 : Tryd.prog.cellsOf 5 = 1 := by kernel_rfl
  have hE := hel 15 (by decide)
  rw [c5, Nat.mul_one, List.getElem?_eq_getElem (by omega)] at hE
  obtain ⟨z, e1, e2, _⟩ := DataW.trod_int Tryd.underlying5 hE
  have e3 := (DataW.agg.inj (Prod.mk.inj ex).1).symm
  have e4 := congrArg (fun l : List (DataW Unit) => l[15]?) e3
  simp only [List.getElem?_map, List.getElem?_eq_getElem (by omega : 15 < xs.length), Option.map_some] at e4
  rw [e2] at e4
  have hz : z = 4 := by
    have h5 : (some (DataW.lit (.int .u8 z)) : Option (DataW Unit)) = some (DataW.lit (.int .u8 4)) := e4
    simp only [Option.some.injEq, DataW.lit.injEq, Lit.int.injEq, true_and] at h5
    exact h5
  show W.cell? ⟨7, 15, none⟩ = _
  rw [World.var?_cell hg hv 15, ← hz]
  have : cs.toList[15]? = some (.int .u8 z) := by
    have h0 : ((cs.toList.drop 15).take 1)[0]? = some (.int .u8 z) := by rw [e1]; rfl
    simpa using h0
  simpa using this
end Go.Proofs.YtkdjddmjcbdhgaaDoor
