/- ModeMays. -/
import Derived.Test.YtpoicdpfjmeehaaDoorG
namespace Go.Proofs.YtpoicdpfjmeehaaDoor
open Go.RowKit

set_option maxHeartbeats 1000000 in
/-- ModeMays. -/
theorem mays_law (m owner group : Int) (dir : Bool) (uid gid want : Int) (w : World) (hm : m < 9223372036854775808) (hM : HasM w) :
    Calls Tryd.prog 3 #[.int .i64 m, .int .i64 owner, .int .i64 group, .bool dir, .int .i64 uid, .int .i64 gid, .int .i64 want] w fun e w' => e = .returned (.bool true) ∧ Below w.heap.size w w' := by
  have HM := Lib.hid hm
  clear hm
  go_enter Tryd.func3, Tryd.ntmps3
  go_wp2_with fail
  refine (shown_any _ hM).mono ?_
  rintro e w1 ⟨rfl, hb⟩
  have HB := Lib.hid hb
  clear hb
  go_wp2_with fail
  refine (right_any _ _).mono ?_
  rintro e w2 ⟨rfl, rfl⟩
  go_wp2_with fail
  refine (rright_any _ HM.out _).mono ?_
  rintro e w2 ⟨rfl, rfl⟩
  go_wp2_with fail
  refine (may_any m owner group dir uid gid want _).mono ?_
  rintro e w2 ⟨rfl, rfl⟩
  go_wp2_with fail
  refine (rmay_any m owner group dir uid gid want HM.out _).mono ?_
  rintro e w2 ⟨rfl, rfl⟩
  go_wp2
  go_ret
  exact ⟨rfl, HB.out⟩
end Go.Proofs.YtpoicdpfjmeehaaDoor
