/-
  A world for the witnesses of this seat's rows: the listed variables hold what their initialisers lay; and what the listed variables give the walks.
-/
import Derived.Test.YtpjjdaenckedbaaDoorRows
import Derived.Test.YtpjjdaenckedbaaDoorK
import Derived.WalkKit
import Derived.ProofKit
import Derived.Lay
import Derived.LaidLaws
import Derived.MakeChecks
import Derived.Lib.LaidTab
import Derived.Deep.DeepHandedRow
namespace Go.Proofs.YtpjjdaenckedbaaDoor
open Go.RowKit

theorem own : ownKnob Tryd.prog.godebug = none := by kernel_rfl

def tables : List (String × DataW Unit) := [("math/bits.deBruijn32tab", Rows.laid_math_bits_deBruijn32tab), ("math/bits.deBruijn64tab", Rows.laid_math_bits_deBruijn64tab), ("internal/strconv.uint64pow10", Rows.laid_internal_strconv_uint64pow10), ("unicode/utf8.acceptRanges", Rows.laid_unicode_utf8_acceptRanges), ("unicode/utf8.first", Rows.laid_unicode_utf8_first)]

noncomputable def laidWorld (os : Os) : World := World.laidAll Tryd.prog os tables

set_option maxRecDepth 100000 in
theorem laid_met (os : Os) (args : Array Value) : laidMet Tryd.prog tables ((laidWorld os).forCall (fun _ _ => 0) ⟨#[], args, []⟩).memory :=
  laidMet_laidAll _ (by kernel_rfl) (by kernel_rfl)

theorem laid_tail {P : Program} {W : World} {x : String × DataW Unit} {rest : List (String × DataW Unit)} (h : laidMet P (x :: rest) W) : laidMet P rest W := by
  obtain ⟨ps, hv, hnd, hm⟩ := h
  obtain ⟨g, t, cs, fuel, p, q, h1, h2, h3, h4, h5, rfl⟩ := hv
  exact ⟨q, h5, (List.nodup_append.1 hnd).2.1, fun b off hb => hm b off (List.mem_append_right _ hb)⟩
set_option maxRecDepth 100000 in
theorem has_p {W : World} (h : laidMetH Tryd.prog tables W) : HasP W := by
  rw [MakeChecks.laidMetH_plain _ _ _ (by kernel_rfl)] at h
  have h3 := laid_tail (laid_tail h)
  exact Lib.tabIs_of_head (g := 2) (by kernel_rfl) (by kernel_rfl) Tryd.underlying101 (by kernel_rfl) (by kernel_rfl) (by kernel_rfl) h3
end Go.Proofs.YtpjjdaenckedbaaDoor
