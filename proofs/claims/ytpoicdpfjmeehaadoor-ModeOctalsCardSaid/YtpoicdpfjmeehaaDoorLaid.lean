/-
  A world for the witnesses of this seat's rows: the listed variables hold what their initialisers lay; and what a shaped world gives the walks.
-/
import Derived.Test.YtpoicdpfjmeehaaDoorRows
import Derived.Test.YtpoicdpfjmeehaaDoorG
import Derived.WalkKit
import Derived.ProofKit
import Derived.Lay
import Derived.Deep.DeepHandedRow
namespace Go.Proofs.YtpoicdpfjmeehaaDoor
open Go.RowKit

theorem own : ownKnob Tryd.prog.godebug = none := by kernel_rfl

def tables : List (String × DataW Unit) := [("math/bits.deBruijn32tab", Rows.laid_math_bits_deBruijn32tab), ("math/bits.deBruijn64tab", Rows.laid_math_bits_deBruijn64tab), ("internal/strconv.uint64pow10", Rows.laid_internal_strconv_uint64pow10), ("unicode/utf8.acceptRanges", Rows.laid_unicode_utf8_acceptRanges), ("strconv.ErrRange", Rows.laid_strconv_ErrRange), ("strconv.ErrSyntax", Rows.laid_strconv_ErrSyntax), ("unicode/utf8.first", Rows.laid_unicode_utf8_first)]

noncomputable def laidWorld (os : Os) : World := World.laidAll Tryd.prog os tables

set_option maxRecDepth 100000 in
theorem laid_met (os : Os) (args : Array Value) : laidMet Tryd.prog tables ((laidWorld os).forCall (fun _ _ => 0) ⟨#[], args, []⟩).memory :=
  laidMet_laidAll _ (by kernel_rfl) (by kernel_rfl)

theorem has_max {W : World} (h : W.ShapedOpen Tryd.prog) : HasM W := Tryd.laysM146.s1_3 W h
theorem i64_top {a : Int} (h : (Lit.int .i64 a).wf = true) : a < 9223372036854775808 := by
  simp only [Lit.wf, Bool.and_eq_true, decide_eq_true_eq] at h
  have h2 : (-9223372036854775808 : Int) ≤ a ∧ a ≤ 9223372036854775807 := h
  omega
end Go.Proofs.YtpoicdpfjmeehaaDoor
