/- What the row's listed variables say: strconv's ErrSyntax holds an error. -/
import Derived.Test.YtpoicdpfjmeehaaDoorLaid
import Derived.Test.YtpoicdpfjmeehaaDoorY
import Derived.LaidLaws
import Derived.MakeChecks
namespace Go.Proofs.YtpoicdpfjmeehaaDoor
open Go.RowKit

set_option maxRecDepth 100000 in
theorem has_err {W : World} (h : laidMetH Tryd.prog tables W) : HasE W := by
  rw [MakeChecks.laidMetH_plain _ _ _ (by kernel_rfl)] at h
  obtain ⟨ps, ⟨_, _, _, _, _, _, _, _, _, _, ⟨_, _, _, _, _, _, _, _, _, _, ⟨_, _, _, _, _, _, _, _, _, _, ⟨_, _, _, _, _, _, _, _, _, _, ⟨_, _, _, _, _, _, _, _, _, _, ⟨g, t, cs, fuel, p, q, hg, ht, hv, hd, _⟩, _⟩, _⟩, _⟩, _⟩, _⟩, _⟩ := h
  obtain rfl := Option.some.inj ((show Tryd.prog.globalNamed "strconv.ErrSyntax" = some 0 by kernel_rfl).symm.trans hg)
  obtain rfl := Option.some.inj ((show (Tryd.prog.globals[0]?).map (·.type) = some 40 by kernel_rfl).symm.trans ht)
  obtain ⟨f2, u, v, hcs, _, _⟩ := iface_of_trod Tryd.underlying40 hd
  refine ⟨u, v, ?_⟩
  rw [World.var?_cell hg hv 0]
  have : cs.toList[0]? = some (.iface u v) := by rw [hcs]; rfl
  simpa using this
end Go.Proofs.YtpoicdpfjmeehaaDoor
