/- MixSalts. -/
import Derived.Test.YtkdjddmjcbdhgaaDoorH
import Derived.Deep.QuietTactic
import Derived.BigQuiet
namespace Go.Proofs.YtkdjddmjcbdhgaaDoor
open Go.RowKit

set_option maxHeartbeats 2000000 in
/-- MixSalts. -/
theorem salts_law (n m : Int) (p : ByteArray) (w : World) (hp : p.size ≤ 140737488351232) (hT : HasT w) :
    Calls Tryd.prog 8 #[.int .i64 n, .int .i64 m, .string p] w fun e w' => e = .returned (.bool true) ∧ Below w.heap.size w w' := by
  go_enter Tryd.func8, Tryd.ntmps8
  go_wp2_with fail
  refine (shown_any _ hT).mono ?_
  rintro e w1 ⟨rfl, hb⟩
  have HB := Lib.hid hb
  clear hb
  by_cases hl : p.size ≤ 2000
  · have hl1 : ¬ (2000 : Int) < p.size := by omega
    go_wp2_with fail
    refine (field_any n p _ hl (hT.below HB.out)).mono ?_
    rintro e w2 ⟨s1, hs1, rfl, hb1⟩
    have HB1 := Lib.hid (HB.out.trans (hb1.mono HB.out.size))
    have HS1 := Lib.hid hs1
    clear hb1 hs1
    go_wp2_with fail
    refine (field_any m p _ hl (hT.below HB1.out)).mono ?_
    rintro e w3 ⟨s2, hs2, rfl, hb2⟩
    have HB2 := Lib.hid (HB1.out.trans (hb2.mono HB1.out.size))
    have HS2 := Lib.hid hs2
    clear hb2 hs2
    have hz1 : (s1.size : Int) = 21 := by have := congrArg List.length HS1.out; rw [sz, FS_len] at this; omega
    have hz2 : (s2.size : Int) = 21 := by have := congrArg List.length HS2.out; rw [sz, FS_len] at this; omega
    have hn16 := and16 n
    have hm16 := and16 m
    have hE : Hid ((n % 65536 = m % 65536) ↔ (s1.extract 0 5).toList = (s2.extract 0 5).toList) := Lib.hid (by
      rw [toList_data, toList_data, ex_data, ex_data, HS1.out, HS2.out, (sl_cast n).1, (sl_cast m).1, List.drop_zero, List.drop_zero, FS_take5, FS_take5]
      constructor
      · intro h; rw [show sl n = sl m by omega]
      · intro h
        have := hexN_inj (k := 4) (sl_cast n).2 (sl_cast m).2 (List.append_cancel_right h)
        omega)
    by_cases he : n % 65536 = m % 65536
    · have hs : s1 = s2 := data_eq.2 (by
        rw [HS1.out, HS2.out]
        have : sl n = sl m := by unfold sl; rw [he]
        unfold FS; rw [this])
      subst hs
      go_wp2_with fail
      go_quiet (fail)
      go_wp2
      go_ret
      exact ⟨rfl, belowN HB2.out _⟩
    · have hx : ((s1.extract 0 5).toList == (s2.extract 0 5).toList) = false := by
        cases hh : (s1.extract 0 5).toList == (s2.extract 0 5).toList with
        | false => rfl
        | true => exact absurd (hE.out.2 (beq_iff_eq.1 hh)) he
      have he2 : (n % 65536 == m % 65536) = false := by simpa using he
      go_wp2_with fail
      go_quiet (fail)
      go_wp2
      go_ret
      exact ⟨rfl, belowN HB2.out _⟩
  · have hl1 : (2000 : Int) < p.size := by omega
    go_wp2
    go_ret
    exact ⟨rfl, HB.out⟩
end Go.Proofs.YtkdjddmjcbdhgaaDoor
