/- The laws of two numbers, and of bits. -/
import Derived.Test.YtpjjdaenckedbaaDoorT
namespace Go.Proofs.YtpjjdaenckedbaaDoor
open Go.RowKit

theorem two_vars (w : World) (k : UInt8) (a b : Int) : InV (w.alloc (.cells #[.string (B [97]), .string (B (decI a)), .bool false, .bool false, .string (B [k]), .string (B (decI b)), .bool false, .bool false] 25)) (.slice (some ⟨w.heap.size, 0, none⟩) 2 2) (ab k a b) :=
  ⟨some ⟨w.heap.size, 0, none⟩, 2, rfl, fun j hj => ⟨w.heap.size, 0, rfl, fun i hi => by
    have hj2 : j < 2 := hj
    rw [Nat.zero_add, heap_cell (at_new w _) _]
    obtain rfl | rfl : j = 0 ∨ j = 1 := by omega
    all_goals
      obtain rfl | rfl | rfl | rfl : i = 0 ∨ i = 1 ∨ i = 2 ∨ i = 3 := by omega
      all_goals rfl⟩⟩
theorem sgn64 : (IntKind.i64.signed = true) = True := by decide
theorem ab_vs {k : UInt8} {a b : Int} (ha : IsI a) (hb : IsI b) : VS (ab k a b) := fun v hv => by
  simp [ab] at hv
  rcases hv with rfl | rfl
  · exact Nat.le_trans (decI_len ha) (by omega)
  · exact Nat.le_trans (decI_len hb) (by omega)
set_option maxHeartbeats 4000000 in
set_option maxRecDepth 100000 in
theorem two_101 (a b : Int) (ha : IsI a) (hb : IsI b) (w : World) (hP : HasP w) (he : a = b) (hg : ¬ b < a) (hz : b = 0) : Calls Tryd.prog 3 #[.int .i64 a, .int .i64 b] w fun e w' => e = .returned (.bool true) ∧ Below w.heap.size w w' := by
  have H1 : Hid (valueS x1S (ab 98 a b) = (wrap64 (wrap64 (a + b) - wrap64 (wrap64 (a - b) * wrap64 (a * b))), [], 0)) := Lib.hid (by have h := val_x1 ha hb; simp only [w64_wrap] at h; exact h)
  have H2 : Hid (valueS x2S (ab 98 a b) = (38, [], 0)) := Lib.hid (by have h := val_x2 ha hb; unfold wantS at h; rw [if_pos he] at h; exact h)
  obtain ⟨z, hzx⟩ : ∃ z, xor64 (-1) a = z := ⟨_, rfl⟩
  have H3 : Hid (valueS x3S (ab 98 a b) = (z, [], 0)) := Lib.hid (by rw [← hzx]; exact val_x3 ha hb)
  have HZZ : Hid (∀ m : Int, m = -1 → (z != bits BinOp.xor IntKind.i64 m a) = false) := Lib.hid (fun m hm => by subst hm; rw [← hzx]; exact bne_self_eq_false _)
  clear hzx
  have H5 : Hid (valueS x5S (ab 98 a b) = (0, [], 22)) := Lib.hid (by have h := val_x5 ha hb; rw [if_pos hz] at h; exact h)
  have te : (a == b) = true := by simpa using he
  have tg : decide (b < a) = false := by simpa using hg
  have tz : (b == 0) = true := by simpa using hz
  clear he hg hz
  have HA := Lib.hid ha
  have HBB := Lib.hid hb
  have HP := Lib.hid hP
  have HSH := Lib.hid (shown_any w hP)
  clear hP
  have HVS := Lib.hid (ab_vs (k := 98) ha hb)
  go_enter Tryd.func3, Tryd.ntmps3
  go_wp2_with fail
  refine HSH.out.mono ?_
  rintro e w1 ⟨rfl, hb⟩
  have HB1 := Lib.hid hb
  clear hb
  go_wp2_with fail
  refine (digits_any a HA.out _).mono ?_
  rintro e w2 ⟨rfl, hb⟩
  have HB2 := Lib.hid (HB1.out.trans (hb.mono HB1.out.size))
  clear hb
  go_wp2_with fail
  refine (digits_any b HBB.out _).mono ?_
  rintro e w3 ⟨rfl, hb⟩
  have HB3 := Lib.hid (HB2.out.trans (hb.mono HB2.out.size))
  clear hb
  have HV3 := Lib.hid (two_vars w3 98 a b)
  have HB3a := Lib.hid (HB3.out.alloc HB3.out.size (.cells #[.string (B [97]), .string (B (decI a)), .bool false, .bool false, .string (B [98]), .string (B (decI b)), .bool false, .bool false] 25))
  go_wp2_with fail
  refine (value_is H1.out _ _ HV3.out (HP.out.below HB3a.out) HVS.out (by simp [ab])).mono ?_
  rintro e w4 ⟨a4, p4, rfl, hj, hbw⟩
  have HB4 := Lib.hid (HB3a.out.trans (hbw.mono HB3a.out.size))
  have HV4 := Lib.hid (HV3.out.below hbw)
  clear hj hbw
  go_wp2_with fail
  refine (value_is H2.out _ _ HV4.out (HP.out.below HB4.out) HVS.out (by simp [ab])).mono ?_
  rintro e w5 ⟨a5, p5, rfl, hj, hbw⟩
  have HB5 := Lib.hid (HB4.out.trans (hbw.mono HB4.out.size))
  have HV5 := Lib.hid (HV4.out.below hbw)
  clear hj hbw
  go_wp2_with fail
  refine (value_is H3.out _ _ HV5.out (HP.out.below HB5.out) HVS.out (by simp [ab])).mono ?_
  rintro e w6 ⟨a6, p6, rfl, hj, hbw⟩
  have HB6 := Lib.hid (HB5.out.trans (hbw.mono HB5.out.size))
  have HV6 := Lib.hid (HV5.out.below hbw)
  clear hj hbw
  go_upto_if 82 with fail
  simp only [sgn64, if_true]
  generalize hzb : bits BinOp.xor IntKind.i64 (-1) a = zb at *
  have hzq : (z != zb) = false := by rw [← hzb]; exact HZZ.out _ rfl
  rw [hzq]
  clear hzq hzb
  go_wp2_with fail
  refine (value_is (val_x4 _) _ _ HV6.out (HP.out.below HB6.out) HVS.out (by simp [ab])).mono ?_
  rintro e w7 ⟨a7, p7, rfl, hj, hbw⟩
  have HB7 := Lib.hid (HB6.out.trans (hbw.mono HB6.out.size))
  have HV7 := Lib.hid (HV6.out.below hbw)
  clear hj hbw
  go_wp2_with fail
  refine (value_is H5.out _ _ HV7.out (HP.out.below HB7.out) HVS.out (by simp [ab])).mono ?_
  rintro e w8 ⟨a8, p8, rfl, hj, hbw⟩
  have HB8 := Lib.hid (HB7.out.trans (hbw.mono HB7.out.size))
  have HV8 := Lib.hid (HV7.out.below hbw)
  clear hj hbw
  go_wp2
  go_ret
  exact ⟨rfl, HB8.out⟩
set_option maxHeartbeats 4000000 in
set_option maxRecDepth 100000 in
theorem two_100 (a b : Int) (ha : IsI a) (hb : IsI b) (w : World) (hP : HasP w) (he : a = b) (hg : ¬ b < a) (hz : ¬ b = 0) : Calls Tryd.prog 3 #[.int .i64 a, .int .i64 b] w fun e w' => e = .returned (.bool true) ∧ Below w.heap.size w w' := by
  have H1 : Hid (valueS x1S (ab 98 a b) = (wrap64 (wrap64 (a + b) - wrap64 (wrap64 (a - b) * wrap64 (a * b))), [], 0)) := Lib.hid (by have h := val_x1 ha hb; simp only [w64_wrap] at h; exact h)
  have H2 : Hid (valueS x2S (ab 98 a b) = (38, [], 0)) := Lib.hid (by have h := val_x2 ha hb; unfold wantS at h; rw [if_pos he] at h; exact h)
  obtain ⟨z, hzx⟩ : ∃ z, xor64 (-1) a = z := ⟨_, rfl⟩
  have H3 : Hid (valueS x3S (ab 98 a b) = (z, [], 0)) := Lib.hid (by rw [← hzx]; exact val_x3 ha hb)
  have HZZ : Hid (∀ m : Int, m = -1 → (z != bits BinOp.xor IntKind.i64 m a) = false) := Lib.hid (fun m hm => by subst hm; rw [← hzx]; exact bne_self_eq_false _)
  clear hzx
  have H5 : Hid (valueS x5S (ab 98 a b) = (a, [], 0)) := Lib.hid (by have h := val_x5 ha hb; rw [if_neg hz] at h; exact h)
  have te : (a == b) = true := by simpa using he
  have tg : decide (b < a) = false := by simpa using hg
  have tz : (b == 0) = false := by simpa using hz
  clear he hg hz
  have HA := Lib.hid ha
  have HBB := Lib.hid hb
  have HP := Lib.hid hP
  have HSH := Lib.hid (shown_any w hP)
  clear hP
  have HVS := Lib.hid (ab_vs (k := 98) ha hb)
  go_enter Tryd.func3, Tryd.ntmps3
  go_wp2_with fail
  refine HSH.out.mono ?_
  rintro e w1 ⟨rfl, hb⟩
  have HB1 := Lib.hid hb
  clear hb
  go_wp2_with fail
  refine (digits_any a HA.out _).mono ?_
  rintro e w2 ⟨rfl, hb⟩
  have HB2 := Lib.hid (HB1.out.trans (hb.mono HB1.out.size))
  clear hb
  go_wp2_with fail
  refine (digits_any b HBB.out _).mono ?_
  rintro e w3 ⟨rfl, hb⟩
  have HB3 := Lib.hid (HB2.out.trans (hb.mono HB2.out.size))
  clear hb
  have HV3 := Lib.hid (two_vars w3 98 a b)
  have HB3a := Lib.hid (HB3.out.alloc HB3.out.size (.cells #[.string (B [97]), .string (B (decI a)), .bool false, .bool false, .string (B [98]), .string (B (decI b)), .bool false, .bool false] 25))
  go_wp2_with fail
  refine (value_is H1.out _ _ HV3.out (HP.out.below HB3a.out) HVS.out (by simp [ab])).mono ?_
  rintro e w4 ⟨a4, p4, rfl, hj, hbw⟩
  have HB4 := Lib.hid (HB3a.out.trans (hbw.mono HB3a.out.size))
  have HV4 := Lib.hid (HV3.out.below hbw)
  clear hj hbw
  go_wp2_with fail
  refine (value_is H2.out _ _ HV4.out (HP.out.below HB4.out) HVS.out (by simp [ab])).mono ?_
  rintro e w5 ⟨a5, p5, rfl, hj, hbw⟩
  have HB5 := Lib.hid (HB4.out.trans (hbw.mono HB4.out.size))
  have HV5 := Lib.hid (HV4.out.below hbw)
  clear hj hbw
  go_wp2_with fail
  refine (value_is H3.out _ _ HV5.out (HP.out.below HB5.out) HVS.out (by simp [ab])).mono ?_
  rintro e w6 ⟨a6, p6, rfl, hj, hbw⟩
  have HB6 := Lib.hid (HB5.out.trans (hbw.mono HB5.out.size))
  have HV6 := Lib.hid (HV5.out.below hbw)
  clear hj hbw
  go_upto_if 82 with fail
  simp only [sgn64, if_true]
  generalize hzb : bits BinOp.xor IntKind.i64 (-1) a = zb at *
  have hzq : (z != zb) = false := by rw [← hzb]; exact HZZ.out _ rfl
  rw [hzq]
  clear hzq hzb
  go_wp2_with fail
  refine (value_is (val_x4 _) _ _ HV6.out (HP.out.below HB6.out) HVS.out (by simp [ab])).mono ?_
  rintro e w7 ⟨a7, p7, rfl, hj, hbw⟩
  have HB7 := Lib.hid (HB6.out.trans (hbw.mono HB6.out.size))
  have HV7 := Lib.hid (HV6.out.below hbw)
  clear hj hbw
  go_wp2_with fail
  refine (value_is H5.out _ _ HV7.out (HP.out.below HB7.out) HVS.out (by simp [ab])).mono ?_
  rintro e w8 ⟨a8, p8, rfl, hj, hbw⟩
  have HB8 := Lib.hid (HB7.out.trans (hbw.mono HB7.out.size))
  have HV8 := Lib.hid (HV7.out.below hbw)
  clear hj hbw
  go_wp2
  go_ret
  exact ⟨rfl, HB8.out⟩
set_option maxHeartbeats 4000000 in
set_option maxRecDepth 100000 in
theorem two_011 (a b : Int) (ha : IsI a) (hb : IsI b) (w : World) (hP : HasP w) (he : ¬ a = b) (hg : b < a) (hz : b = 0) : Calls Tryd.prog 3 #[.int .i64 a, .int .i64 b] w fun e w' => e = .returned (.bool true) ∧ Below w.heap.size w w' := by
  have H1 : Hid (valueS x1S (ab 98 a b) = (wrap64 (wrap64 (a + b) - wrap64 (wrap64 (a - b) * wrap64 (a * b))), [], 0)) := Lib.hid (by have h := val_x1 ha hb; simp only [w64_wrap] at h; exact h)
  have H2 : Hid (valueS x2S (ab 98 a b) = (56, [], 0)) := Lib.hid (by have h := val_x2 ha hb; unfold wantS at h; rw [if_neg he, if_pos hg] at h; exact h)
  obtain ⟨z, hzx⟩ : ∃ z, xor64 (-1) a = z := ⟨_, rfl⟩
  have H3 : Hid (valueS x3S (ab 98 a b) = (z, [], 0)) := Lib.hid (by rw [← hzx]; exact val_x3 ha hb)
  have HZZ : Hid (∀ m : Int, m = -1 → (z != bits BinOp.xor IntKind.i64 m a) = false) := Lib.hid (fun m hm => by subst hm; rw [← hzx]; exact bne_self_eq_false _)
  clear hzx
  have H5 : Hid (valueS x5S (ab 98 a b) = (0, [], 22)) := Lib.hid (by have h := val_x5 ha hb; rw [if_pos hz] at h; exact h)
  have te : (a == b) = false := by simpa using he
  have tg : decide (b < a) = true := by simpa using hg
  have tz : (b == 0) = true := by simpa using hz
  clear he hg hz
  have HA := Lib.hid ha
  have HBB := Lib.hid hb
  have HP := Lib.hid hP
  have HSH := Lib.hid (shown_any w hP)
  clear hP
  have HVS := Lib.hid (ab_vs (k := 98) ha hb)
  go_enter Tryd.func3, Tryd.ntmps3
  go_wp2_with fail
  refine HSH.out.mono ?_
  rintro e w1 ⟨rfl, hb⟩
  have HB1 := Lib.hid hb
  clear hb
  go_wp2_with fail
  refine (digits_any a HA.out _).mono ?_
  rintro e w2 ⟨rfl, hb⟩
  have HB2 := Lib.hid (HB1.out.trans (hb.mono HB1.out.size))
  clear hb
  go_wp2_with fail
  refine (digits_any b HBB.out _).mono ?_
  rintro e w3 ⟨rfl, hb⟩
  have HB3 := Lib.hid (HB2.out.trans (hb.mono HB2.out.size))
  clear hb
  have HV3 := Lib.hid (two_vars w3 98 a b)
  have HB3a := Lib.hid (HB3.out.alloc HB3.out.size (.cells #[.string (B [97]), .string (B (decI a)), .bool false, .bool false, .string (B [98]), .string (B (decI b)), .bool false, .bool false] 25))
  go_wp2_with fail
  refine (value_is H1.out _ _ HV3.out (HP.out.below HB3a.out) HVS.out (by simp [ab])).mono ?_
  rintro e w4 ⟨a4, p4, rfl, hj, hbw⟩
  have HB4 := Lib.hid (HB3a.out.trans (hbw.mono HB3a.out.size))
  have HV4 := Lib.hid (HV3.out.below hbw)
  clear hj hbw
  go_wp2_with fail
  refine (value_is H2.out _ _ HV4.out (HP.out.below HB4.out) HVS.out (by simp [ab])).mono ?_
  rintro e w5 ⟨a5, p5, rfl, hj, hbw⟩
  have HB5 := Lib.hid (HB4.out.trans (hbw.mono HB4.out.size))
  have HV5 := Lib.hid (HV4.out.below hbw)
  clear hj hbw
  go_wp2_with fail
  refine (value_is H3.out _ _ HV5.out (HP.out.below HB5.out) HVS.out (by simp [ab])).mono ?_
  rintro e w6 ⟨a6, p6, rfl, hj, hbw⟩
  have HB6 := Lib.hid (HB5.out.trans (hbw.mono HB5.out.size))
  have HV6 := Lib.hid (HV5.out.below hbw)
  clear hj hbw
  go_upto_if 82 with fail
  simp only [sgn64, if_true]
  generalize hzb : bits BinOp.xor IntKind.i64 (-1) a = zb at *
  have hzq : (z != zb) = false := by rw [← hzb]; exact HZZ.out _ rfl
  rw [hzq]
  clear hzq hzb
  go_wp2_with fail
  refine (value_is (val_x4 _) _ _ HV6.out (HP.out.below HB6.out) HVS.out (by simp [ab])).mono ?_
  rintro e w7 ⟨a7, p7, rfl, hj, hbw⟩
  have HB7 := Lib.hid (HB6.out.trans (hbw.mono HB6.out.size))
  have HV7 := Lib.hid (HV6.out.below hbw)
  clear hj hbw
  go_wp2_with fail
  refine (value_is H5.out _ _ HV7.out (HP.out.below HB7.out) HVS.out (by simp [ab])).mono ?_
  rintro e w8 ⟨a8, p8, rfl, hj, hbw⟩
  have HB8 := Lib.hid (HB7.out.trans (hbw.mono HB7.out.size))
  have HV8 := Lib.hid (HV7.out.below hbw)
  clear hj hbw
  go_wp2
  go_ret
  exact ⟨rfl, HB8.out⟩
set_option maxHeartbeats 4000000 in
set_option maxRecDepth 100000 in
theorem two_010 (a b : Int) (ha : IsI a) (hb : IsI b) (w : World) (hP : HasP w) (he : ¬ a = b) (hg : b < a) (hz : ¬ b = 0) : Calls Tryd.prog 3 #[.int .i64 a, .int .i64 b] w fun e w' => e = .returned (.bool true) ∧ Below w.heap.size w w' := by
  have H1 : Hid (valueS x1S (ab 98 a b) = (wrap64 (wrap64 (a + b) - wrap64 (wrap64 (a - b) * wrap64 (a * b))), [], 0)) := Lib.hid (by have h := val_x1 ha hb; simp only [w64_wrap] at h; exact h)
  have H2 : Hid (valueS x2S (ab 98 a b) = (56, [], 0)) := Lib.hid (by have h := val_x2 ha hb; unfold wantS at h; rw [if_neg he, if_pos hg] at h; exact h)
  obtain ⟨z, hzx⟩ : ∃ z, xor64 (-1) a = z := ⟨_, rfl⟩
  have H3 : Hid (valueS x3S (ab 98 a b) = (z, [], 0)) := Lib.hid (by rw [← hzx]; exact val_x3 ha hb)
  have HZZ : Hid (∀ m : Int, m = -1 → (z != bits BinOp.xor IntKind.i64 m a) = false) := Lib.hid (fun m hm => by subst hm; rw [← hzx]; exact bne_self_eq_false _)
  clear hzx
  have H5 : Hid (valueS x5S (ab 98 a b) = (a, [], 0)) := Lib.hid (by have h := val_x5 ha hb; rw [if_neg hz] at h; exact h)
  have te : (a == b) = false := by simpa using he
  have tg : decide (b < a) = true := by simpa using hg
  have tz : (b == 0) = false := by simpa using hz
  clear he hg hz
  have HA := Lib.hid ha
  have HBB := Lib.hid hb
  have HP := Lib.hid hP
  have HSH := Lib.hid (shown_any w hP)
  clear hP
  have HVS := Lib.hid (ab_vs (k := 98) ha hb)
  go_enter Tryd.func3, Tryd.ntmps3
  go_wp2_with fail
  refine HSH.out.mono ?_
  rintro e w1 ⟨rfl, hb⟩
  have HB1 := Lib.hid hb
  clear hb
  go_wp2_with fail
  refine (digits_any a HA.out _).mono ?_
  rintro e w2 ⟨rfl, hb⟩
  have HB2 := Lib.hid (HB1.out.trans (hb.mono HB1.out.size))
  clear hb
  go_wp2_with fail
  refine (digits_any b HBB.out _).mono ?_
  rintro e w3 ⟨rfl, hb⟩
  have HB3 := Lib.hid (HB2.out.trans (hb.mono HB2.out.size))
  clear hb
  have HV3 := Lib.hid (two_vars w3 98 a b)
  have HB3a := Lib.hid (HB3.out.alloc HB3.out.size (.cells #[.string (B [97]), .string (B (decI a)), .bool false, .bool false, .string (B [98]), .string (B (decI b)), .bool false, .bool false] 25))
  go_wp2_with fail
  refine (value_is H1.out _ _ HV3.out (HP.out.below HB3a.out) HVS.out (by simp [ab])).mono ?_
  rintro e w4 ⟨a4, p4, rfl, hj, hbw⟩
  have HB4 := Lib.hid (HB3a.out.trans (hbw.mono HB3a.out.size))
  have HV4 := Lib.hid (HV3.out.below hbw)
  clear hj hbw
  go_wp2_with fail
  refine (value_is H2.out _ _ HV4.out (HP.out.below HB4.out) HVS.out (by simp [ab])).mono ?_
  rintro e w5 ⟨a5, p5, rfl, hj, hbw⟩
  have HB5 := Lib.hid (HB4.out.trans (hbw.mono HB4.out.size))
  have HV5 := Lib.hid (HV4.out.below hbw)
  clear hj hbw
  go_wp2_with fail
  refine (value_is H3.out _ _ HV5.out (HP.out.below HB5.out) HVS.out (by simp [ab])).mono ?_
  rintro e w6 ⟨a6, p6, rfl, hj, hbw⟩
  have HB6 := Lib.hid (HB5.out.trans (hbw.mono HB5.out.size))
  have HV6 := Lib.hid (HV5.out.below hbw)
  clear hj hbw
  go_upto_if 82 with fail
  simp only [sgn64, if_true]
  generalize hzb : bits BinOp.xor IntKind.i64 (-1) a = zb at *
  have hzq : (z != zb) = false := by rw [← hzb]; exact HZZ.out _ rfl
  rw [hzq]
  clear hzq hzb
  go_wp2_with fail
  refine (value_is (val_x4 _) _ _ HV6.out (HP.out.below HB6.out) HVS.out (by simp [ab])).mono ?_
  rintro e w7 ⟨a7, p7, rfl, hj, hbw⟩
  have HB7 := Lib.hid (HB6.out.trans (hbw.mono HB6.out.size))
  have HV7 := Lib.hid (HV6.out.below hbw)
  clear hj hbw
  go_wp2_with fail
  refine (value_is H5.out _ _ HV7.out (HP.out.below HB7.out) HVS.out (by simp [ab])).mono ?_
  rintro e w8 ⟨a8, p8, rfl, hj, hbw⟩
  have HB8 := Lib.hid (HB7.out.trans (hbw.mono HB7.out.size))
  have HV8 := Lib.hid (HV7.out.below hbw)
  clear hj hbw
  go_wp2
  go_ret
  exact ⟨rfl, HB8.out⟩
set_option maxHeartbeats 4000000 in
set_option maxRecDepth 100000 in
theorem two_001 (a b : Int) (ha : IsI a) (hb : IsI b) (w : World) (hP : HasP w) (he : ¬ a = b) (hg : ¬ b < a) (hz : b = 0) : Calls Tryd.prog 3 #[.int .i64 a, .int .i64 b] w fun e w' => e = .returned (.bool true) ∧ Below w.heap.size w w' := by
  have H1 : Hid (valueS x1S (ab 98 a b) = (wrap64 (wrap64 (a + b) - wrap64 (wrap64 (a - b) * wrap64 (a * b))), [], 0)) := Lib.hid (by have h := val_x1 ha hb; simp only [w64_wrap] at h; exact h)
  have H2 : Hid (valueS x2S (ab 98 a b) = (11, [], 0)) := Lib.hid (by have h := val_x2 ha hb; unfold wantS at h; rw [if_neg he, if_neg hg] at h; exact h)
  obtain ⟨z, hzx⟩ : ∃ z, xor64 (-1) a = z := ⟨_, rfl⟩
  have H3 : Hid (valueS x3S (ab 98 a b) = (z, [], 0)) := Lib.hid (by rw [← hzx]; exact val_x3 ha hb)
  have HZZ : Hid (∀ m : Int, m = -1 → (z != bits BinOp.xor IntKind.i64 m a) = false) := Lib.hid (fun m hm => by subst hm; rw [← hzx]; exact bne_self_eq_false _)
  clear hzx
  have H5 : Hid (valueS x5S (ab 98 a b) = (0, [], 22)) := Lib.hid (by have h := val_x5 ha hb; rw [if_pos hz] at h; exact h)
  have te : (a == b) = false := by simpa using he
  have tg : decide (b < a) = false := by simpa using hg
  have tz : (b == 0) = true := by simpa using hz
  clear he hg hz
  have HA := Lib.hid ha
  have HBB := Lib.hid hb
  have HP := Lib.hid hP
  have HSH := Lib.hid (shown_any w hP)
  clear hP
  have HVS := Lib.hid (ab_vs (k := 98) ha hb)
  go_enter Tryd.func3, Tryd.ntmps3
  go_wp2_with fail
  refine HSH.out.mono ?_
  rintro e w1 ⟨rfl, hb⟩
  have HB1 := Lib.hid hb
  clear hb
  go_wp2_with fail
  refine (digits_any a HA.out _).mono ?_
  rintro e w2 ⟨rfl, hb⟩
  have HB2 := Lib.hid (HB1.out.trans (hb.mono HB1.out.size))
  clear hb
  go_wp2_with fail
  refine (digits_any b HBB.out _).mono ?_
  rintro e w3 ⟨rfl, hb⟩
  have HB3 := Lib.hid (HB2.out.trans (hb.mono HB2.out.size))
  clear hb
  have HV3 := Lib.hid (two_vars w3 98 a b)
  have HB3a := Lib.hid (HB3.out.alloc HB3.out.size (.cells #[.string (B [97]), .string (B (decI a)), .bool false, .bool false, .string (B [98]), .string (B (decI b)), .bool false, .bool false] 25))
  go_wp2_with fail
  refine (value_is H1.out _ _ HV3.out (HP.out.below HB3a.out) HVS.out (by simp [ab])).mono ?_
  rintro e w4 ⟨a4, p4, rfl, hj, hbw⟩
  have HB4 := Lib.hid (HB3a.out.trans (hbw.mono HB3a.out.size))
  have HV4 := Lib.hid (HV3.out.below hbw)
  clear hj hbw
  go_wp2_with fail
  refine (value_is H2.out _ _ HV4.out (HP.out.below HB4.out) HVS.out (by simp [ab])).mono ?_
  rintro e w5 ⟨a5, p5, rfl, hj, hbw⟩
  have HB5 := Lib.hid (HB4.out.trans (hbw.mono HB4.out.size))
  have HV5 := Lib.hid (HV4.out.below hbw)
  clear hj hbw
  go_wp2_with fail
  refine (value_is H3.out _ _ HV5.out (HP.out.below HB5.out) HVS.out (by simp [ab])).mono ?_
  rintro e w6 ⟨a6, p6, rfl, hj, hbw⟩
  have HB6 := Lib.hid (HB5.out.trans (hbw.mono HB5.out.size))
  have HV6 := Lib.hid (HV5.out.below hbw)
  clear hj hbw
  go_upto_if 82 with fail
  simp only [sgn64, if_true]
  generalize hzb : bits BinOp.xor IntKind.i64 (-1) a = zb at *
  have hzq : (z != zb) = false := by rw [← hzb]; exact HZZ.out _ rfl
  rw [hzq]
  clear hzq hzb
  go_wp2_with fail
  refine (value_is (val_x4 _) _ _ HV6.out (HP.out.below HB6.out) HVS.out (by simp [ab])).mono ?_
  rintro e w7 ⟨a7, p7, rfl, hj, hbw⟩
  have HB7 := Lib.hid (HB6.out.trans (hbw.mono HB6.out.size))
  have HV7 := Lib.hid (HV6.out.below hbw)
  clear hj hbw
  go_wp2_with fail
  refine (value_is H5.out _ _ HV7.out (HP.out.below HB7.out) HVS.out (by simp [ab])).mono ?_
  rintro e w8 ⟨a8, p8, rfl, hj, hbw⟩
  have HB8 := Lib.hid (HB7.out.trans (hbw.mono HB7.out.size))
  have HV8 := Lib.hid (HV7.out.below hbw)
  clear hj hbw
  go_wp2
  go_ret
  exact ⟨rfl, HB8.out⟩
set_option maxHeartbeats 4000000 in
set_option maxRecDepth 100000 in
theorem two_000 (a b : Int) (ha : IsI a) (hb : IsI b) (w : World) (hP : HasP w) (he : ¬ a = b) (hg : ¬ b < a) (hz : ¬ b = 0) : Calls Tryd.prog 3 #[.int .i64 a, .int .i64 b] w fun e w' => e = .returned (.bool true) ∧ Below w.heap.size w w' := by
  have H1 : Hid (valueS x1S (ab 98 a b) = (wrap64 (wrap64 (a + b) - wrap64 (wrap64 (a - b) * wrap64 (a * b))), [], 0)) := Lib.hid (by have h := val_x1 ha hb; simp only [w64_wrap] at h; exact h)
  have H2 : Hid (valueS x2S (ab 98 a b) = (11, [], 0)) := Lib.hid (by have h := val_x2 ha hb; unfold wantS at h; rw [if_neg he, if_neg hg] at h; exact h)
  obtain ⟨z, hzx⟩ : ∃ z, xor64 (-1) a = z := ⟨_, rfl⟩
  have H3 : Hid (valueS x3S (ab 98 a b) = (z, [], 0)) := Lib.hid (by rw [← hzx]; exact val_x3 ha hb)
  have HZZ : Hid (∀ m : Int, m = -1 → (z != bits BinOp.xor IntKind.i64 m a) = false) := Lib.hid (fun m hm => by subst hm; rw [← hzx]; exact bne_self_eq_false _)
  clear hzx
  have H5 : Hid (valueS x5S (ab 98 a b) = (a, [], 0)) := Lib.hid (by have h := val_x5 ha hb; rw [if_neg hz] at h; exact h)
  have te : (a == b) = false := by simpa using he
  have tg : decide (b < a) = false := by simpa using hg
  have tz : (b == 0) = false := by simpa using hz
  clear he hg hz
  have HA := Lib.hid ha
  have HBB := Lib.hid hb
  have HP := Lib.hid hP
  have HSH := Lib.hid (shown_any w hP)
  clear hP
  have HVS := Lib.hid (ab_vs (k := 98) ha hb)
  go_enter Tryd.func3, Tryd.ntmps3
  go_wp2_with fail
  refine HSH.out.mono ?_
  rintro e w1 ⟨rfl, hb⟩
  have HB1 := Lib.hid hb
  clear hb
  go_wp2_with fail
  refine (digits_any a HA.out _).mono ?_
  rintro e w2 ⟨rfl, hb⟩
  have HB2 := Lib.hid (HB1.out.trans (hb.mono HB1.out.size))
  clear hb
  go_wp2_with fail
  refine (digits_any b HBB.out _).mono ?_
  rintro e w3 ⟨rfl, hb⟩
  have HB3 := Lib.hid (HB2.out.trans (hb.mono HB2.out.size))
  clear hb
  have HV3 := Lib.hid (two_vars w3 98 a b)
  have HB3a := Lib.hid (HB3.out.alloc HB3.out.size (.cells #[.string (B [97]), .string (B (decI a)), .bool false, .bool false, .string (B [98]), .string (B (decI b)), .bool false, .bool false] 25))
  go_wp2_with fail
  refine (value_is H1.out _ _ HV3.out (HP.out.below HB3a.out) HVS.out (by simp [ab])).mono ?_
  rintro e w4 ⟨a4, p4, rfl, hj, hbw⟩
  have HB4 := Lib.hid (HB3a.out.trans (hbw.mono HB3a.out.size))
  have HV4 := Lib.hid (HV3.out.below hbw)
  clear hj hbw
  go_wp2_with fail
  refine (value_is H2.out _ _ HV4.out (HP.out.below HB4.out) HVS.out (by simp [ab])).mono ?_
  rintro e w5 ⟨a5, p5, rfl, hj, hbw⟩
  have HB5 := Lib.hid (HB4.out.trans (hbw.mono HB4.out.size))
  have HV5 := Lib.hid (HV4.out.below hbw)
  clear hj hbw
  go_wp2_with fail
  refine (value_is H3.out _ _ HV5.out (HP.out.below HB5.out) HVS.out (by simp [ab])).mono ?_
  rintro e w6 ⟨a6, p6, rfl, hj, hbw⟩
  have HB6 := Lib.hid (HB5.out.trans (hbw.mono HB5.out.size))
  have HV6 := Lib.hid (HV5.out.below hbw)
  clear hj hbw
  go_upto_if 82 with fail
  simp only [sgn64, if_true]
  generalize hzb : bits BinOp.xor IntKind.i64 (-1) a = zb at *
  have hzq : (z != zb) = false := by rw [← hzb]; exact HZZ.out _ rfl
  rw [hzq]
  clear hzq hzb
  go_wp2_with fail
  refine (value_is (val_x4 _) _ _ HV6.out (HP.out.below HB6.out) HVS.out (by simp [ab])).mono ?_
  rintro e w7 ⟨a7, p7, rfl, hj, hbw⟩
  have HB7 := Lib.hid (HB6.out.trans (hbw.mono HB6.out.size))
  have HV7 := Lib.hid (HV6.out.below hbw)
  clear hj hbw
  go_wp2_with fail
  refine (value_is H5.out _ _ HV7.out (HP.out.below HB7.out) HVS.out (by simp [ab])).mono ?_
  rintro e w8 ⟨a8, p8, rfl, hj, hbw⟩
  have HB8 := Lib.hid (HB7.out.trans (hbw.mono HB7.out.size))
  have HV8 := Lib.hid (HV7.out.below hbw)
  clear hj hbw
  go_wp2
  go_ret
  exact ⟨rfl, HB8.out⟩
theorem two_law (a b : Int) (ha : IsI a) (hb : IsI b) (w : World) (hP : HasP w) : Calls Tryd.prog 3 #[.int .i64 a, .int .i64 b] w fun e w' => e = .returned (.bool true) ∧ Below w.heap.size w w' := by
  by_cases hz : b = 0
  · by_cases he : a = b
    · exact two_101 a b ha hb w hP he (by omega) hz
    · by_cases hg : b < a
      · exact two_011 a b ha hb w hP he hg hz
      · exact two_001 a b ha hb w hP he hg hz
  · by_cases he : a = b
    · exact two_100 a b ha hb w hP he (by omega) hz
    · by_cases hg : b < a
      · exact two_010 a b ha hb w hP he hg hz
      · exact two_000 a b ha hb w hP he hg hz
set_option maxHeartbeats 4000000 in
set_option maxRecDepth 100000 in
theorem bits_law (a b : Int) (ha : IsI a) (hb : IsI b) (w : World) (hP : HasP w) : Calls Tryd.prog 6 #[.int .i64 a, .int .i64 b] w fun e w' => e = .returned (.bool true) ∧ Below w.heap.size w w' := by
  have hbd := and63 b
  obtain ⟨n, hn⟩ : ∃ n, bits .and .i64 b 63 = n := ⟨_, rfl⟩
  have H1 : Hid (valueS b1S (ab 107 a b) = (wrap64 (a * 2 ^ n.toNat), [], 0)) := Lib.hid (by have h := val_b1 ha hb; rw [min63, w64_wrap, hn] at h; exact h)
  have H2 : Hid (valueS b2S (ab 107 a b) = (a / 2 ^ n.toNat, [], 0)) := Lib.hid (by have h := val_b2 ha hb; rw [min63, Int.fdiv_eq_ediv_of_nonneg _ (Int.pow_nonneg (by decide)), hn] at h; exact h)
  have H3 : Hid (valueS b3S (ab 107 a b) = (-1, [], 0)) := Lib.hid (val_b3 ha)
  rw [hn] at hbd
  obtain ⟨hb0, hb1⟩ := hbd
  have hwu : IntKind.u64.wrap n = n := by rw [IntKind.wrap_u64]; omega
  have HA := Lib.hid ha
  have HBB := Lib.hid hb
  have HP := Lib.hid hP
  have HSH := Lib.hid (shown_any w hP)
  clear hP
  have HVS := Lib.hid (ab_vs (k := 107) ha hb)
  go_enter Tryd.func6, Tryd.ntmps6
  go_wp2_with fail
  refine HSH.out.mono ?_
  rintro e w1 ⟨rfl, hb⟩
  have HB1 := Lib.hid hb
  clear hb
  go_wp2_with fail
  refine (digits_any a HA.out _).mono ?_
  rintro e w2 ⟨rfl, hb⟩
  have HB2 := Lib.hid (HB1.out.trans (hb.mono HB1.out.size))
  clear hb
  go_wp2_with fail
  refine (digits_any b HBB.out _).mono ?_
  rintro e w3 ⟨rfl, hb⟩
  have HB3 := Lib.hid (HB2.out.trans (hb.mono HB2.out.size))
  clear hb
  have HV3 := Lib.hid (two_vars w3 107 a b)
  have HB3a := Lib.hid (HB3.out.alloc HB3.out.size (.cells #[.string (B [97]), .string (B (decI a)), .bool false, .bool false, .string (B [107]), .string (B (decI b)), .bool false, .bool false] 25))
  go_wp2_with fail
  refine (value_is H1.out _ _ HV3.out (HP.out.below HB3a.out) HVS.out (by simp [ab])).mono ?_
  rintro e w4 ⟨a4, p4, rfl, hj, hbw⟩
  have HB4 := Lib.hid (HB3a.out.trans (hbw.mono HB3a.out.size))
  have HV4 := Lib.hid (HV3.out.below hbw)
  clear hj hbw
  go_wp2_with fail
  refine (value_is H2.out _ _ HV4.out (HP.out.below HB4.out) HVS.out (by simp [ab])).mono ?_
  rintro e w5 ⟨a5, p5, rfl, hj, hbw⟩
  have HB5 := Lib.hid (HB4.out.trans (hbw.mono HB4.out.size))
  have HV5 := Lib.hid (HV4.out.below hbw)
  clear hj hbw
  go_wp2_with fail
  refine (value_is H3.out _ _ HV5.out (HP.out.below HB5.out) HVS.out (by simp [ab])).mono ?_
  rintro e w6 ⟨a6, p6, rfl, hj, hbw⟩
  have HB6 := Lib.hid (HB5.out.trans (hbw.mono HB5.out.size))
  have HV6 := Lib.hid (HV5.out.below hbw)
  clear hj hbw
  go_wp2
  go_ways
  go_ret
  exact ⟨rfl, HB6.out⟩
end Go.Proofs.YtpjjdaenckedbaaDoor
