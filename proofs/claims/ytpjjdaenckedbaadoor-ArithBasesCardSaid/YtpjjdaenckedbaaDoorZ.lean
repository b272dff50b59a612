/- What the row of bases is handed. -/
import Derived.Test.YtpjjdaenckedbaaDoorX
import Derived.Test.YtpjjdaenckedbaaDoorY
namespace Go.Proofs.YtpjjdaenckedbaaDoor
open Go.RowKit
theorem bases_b (a : Int) (h : (Lit.int .i64 a).wf = true) (w : World) (hP : HasP w) : Calls Tryd.prog 7 #[.int .i64 a] w fun e w' => e = .returned (.bool true) ∧ Below w.heap.size w w' := bases_law a (isI_of h) w hP
end Go.Proofs.YtpjjdaenckedbaaDoor
