/- What the rows hand to the laws. -/
import Derived.Test.YtpjjdaenckedbaaDoorLaid
import Derived.Test.YtpjjdaenckedbaaDoorU
import Derived.Test.YtpjjdaenckedbaaDoorV
namespace Go.Proofs.YtpjjdaenckedbaaDoor
open Go.RowKit

theorem isI_of {a : Int} (h : (Lit.int .i64 a).wf = true) : IsI a := by
  simp only [Lit.wf, IntKind.min, IntKind.max, IntKind.signed, IntKind.bits, Bool.and_eq_true, decide_eq_true_eq, if_true] at h
  unfold IsI
  omega
theorem of_B (s : ByteArray) : s = B s.data.toList := by
  apply ByteArray.ext
  apply Array.ext'
  rfl
theorem skips_b (s : ByteArray) (w : World) (hP : HasP w) : Calls Tryd.prog 5 #[.string s] w fun e w' => e = .returned (.bool true) ∧ Below w.heap.size w w' := by
  rw [of_B s]; exact skips_law _ w hP
end Go.Proofs.YtpjjdaenckedbaaDoor
