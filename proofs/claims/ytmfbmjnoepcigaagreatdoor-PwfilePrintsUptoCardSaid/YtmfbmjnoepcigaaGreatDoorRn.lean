/- PwfilePrints. -/
import Derived.Test.YtmfbmjnoepcigaaGreatDoorRl
import Derived.Test.YtmfbmjnoepcigaaGreatDoorQ
namespace Go.Proofs.YtmfbmjnoepcigaaGreatDoor
open Go.RowKit

set_option maxHeartbeats 4000000 in
set_option maxRecDepth 100000 in
theorem prints_law (v : Value) (L : List UserS) (w : World) (hF : InU w v L) (hn : L.length ≤ 140737488355328) (hU : ∀ u ∈ L, SzU u) (hV : ∀ u ∈ L, SzV u) (hW : HasW w) :
    Calls Tryz.prog 4 #[v] w fun e w' => e = .returned (.bool true) ∧ Below w.heap.size w w' := by
  have HS := Lib.hid (shown_any w hW)
  have HF := Lib.hid hF
  have H1 := Lib.hid (fun W (h : Below w.heap.size w W) => right_any v L W (HF.out.below h) hn hU)
  have H2 := Lib.hid (fun W (h : Below w.heap.size w W) => rright_any v L W (HF.out.below h) hn hV)
  have H3 := Lib.hid (fun W (h : Below w.heap.size w W) => print_any v L W (HF.out.below h) hn hU (hW.below h))
  have H4 := Lib.hid (fun W (h : Below w.heap.size w W) => rprint_any v L W (HF.out.below h) hn hV)
  clear hF hW hn hU hV
  have heq : ∀ R : ByteArray, (R.toList == R.toList) = true := fun R => by simp
  generalize printS L = P at *
  generalize rightB L = q at *
  go_enter Tryz.func4, Tryz.ntmps4
  go_wp2_with fail
  refine HS.out.mono ?_
  rintro e w1 ⟨rfl, hb⟩
  have HB1 := Lib.hid hb
  clear hb HS
  go_wp2_with fail
  refine (H1.out _ HB1.out).mono ?_
  rintro e w2 ⟨rfl, hb⟩
  have HB2 := Lib.hid (HB1.out.trans (hb.mono HB1.out.size))
  clear hb HB1
  go_wp2_with fail
  refine (H2.out _ HB2.out).mono ?_
  rintro e w3 ⟨rfl, hb⟩
  have HB3 := Lib.hid (HB2.out.trans (hb.mono HB2.out.size))
  clear hb HB2
  have hqq : (q == q) = true := by simp
  go_wp2_with fail
  refine (H3.out _ HB3.out).mono ?_
  rintro e w4 ⟨rfl, hb⟩
  have HB4 := Lib.hid (HB3.out.trans (hb.mono HB3.out.size))
  clear hb HB3
  go_wp2_with fail
  refine (H4.out _ HB4.out).mono ?_
  rintro e w5 ⟨rfl, hb⟩
  have HB5 := Lib.hid (HB4.out.trans (hb.mono HB4.out.size))
  clear hb HB4
  have hpp := heq P
  go_wp2
  go_ret
  exact ⟨rfl, HB5.out⟩
end Go.Proofs.YtmfbmjnoepcigaaGreatDoor
