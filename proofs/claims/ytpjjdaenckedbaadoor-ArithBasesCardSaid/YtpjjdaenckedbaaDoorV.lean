/- The laws of what is set, and of what does not count. -/
import Derived.Test.YtpjjdaenckedbaaDoorT
namespace Go.Proofs.YtpjjdaenckedbaaDoor
open Go.RowKit

theorem B_app (a b : Bytes) : B a ++ B b = B (a ++ b) := by
  apply ByteArray.ext
  rw [ByteArray.data_append]
  apply Array.ext'
  rw [Array.toList_append]; rfl
theorem two_varsX (w : World) (a b : Int) : InV (w.alloc (.cells #[.string (B [121]), .string (B (decI a)), .bool false, .bool false, .string (B [120]), .string (B (decI b)), .bool false, .bool false] 25)) (.slice (some ⟨w.heap.size, 0, none⟩) 2 2) [⟨[121], decI a⟩, ⟨[120], decI b⟩] :=
  ⟨some ⟨w.heap.size, 0, none⟩, 2, rfl, fun j hj => ⟨w.heap.size, 0, rfl, fun i hi => by
    have hj2 : j < 2 := hj
    rw [Nat.zero_add, heap_cell (at_new w _) _]
    obtain rfl | rfl : j = 0 ∨ j = 1 := by omega
    all_goals
      obtain rfl | rfl | rfl | rfl : i = 0 ∨ i = 1 ∨ i = 2 ∨ i = 3 := by omega
      all_goals rfl⟩⟩
theorem bsz (a : Bytes) : (B a).size = a.length := rfl
set_option maxHeartbeats 4000000 in
set_option maxRecDepth 100000 in
theorem skip_long (s : Bytes) (w : World) (hP : HasP w) (hl : 100 < s.length) : Calls Tryd.prog 5 #[.string (B s)] w fun e w' => e = .returned (.bool true) ∧ Below w.heap.size w w' := by
  have HP := Lib.hid hP
  have HSH := Lib.hid (shown_any w hP)
  clear hP
  have hsz : (B s).size = s.length := rfl
  have hl1 : (100 : Int) < s.length := by omega
  clear hl
  go_enter Tryd.func5, Tryd.ntmps5
  go_wp2_with fail
  refine HSH.out.mono ?_
  rintro e w1 ⟨rfl, hb⟩
  have HB1 := Lib.hid hb
  clear hb
  go_wp2
  go_ret
  exact ⟨rfl, HB1.out⟩
set_option maxHeartbeats 4000000 in
set_option maxRecDepth 100000 in
theorem skip_0 (s : Bytes) (w : World) (hP : HasP w) (hl : s.length ≤ 100) {v0 v1 v2 v3 v4 c0 c1 c2 c3 c4 : Int} {l0 l1 l2 l3 l4 : List VarS} (h0 : valueS s [] = (v0, l0, c0)) (h1 : valueS (t0S s) [] = (v1, l1, c1)) (h2 : valueS (t1S s) [] = (v2, l2, c2)) (h3 : valueS (t2S s) [] = (v3, l3, c3)) (h4 : valueS (t3S s) [] = (v4, l4, c4)) (k0 : c0 = 17) : Calls Tryd.prog 5 #[.string (B s)] w fun e w' => e = .returned (.bool true) ∧ Below w.heap.size w w' := by
  have H0 := Lib.hid h0
  have H1 := Lib.hid h1
  have H2 := Lib.hid h2
  have H3 := Lib.hid h3
  have H4 := Lib.hid h4
  have z0 : (c0 == 17) = true := by simpa using k0
  clear k0
  clear h0 h1 h2 h3 h4
  have HP := Lib.hid hP
  have HSH := Lib.hid (shown_any w hP)
  clear hP
  have hsz : (B s).size = s.length := rfl
  have hl1 : ¬ (100 : Int) < s.length := by omega
  have b1 : B [40] ++ B s = B (40 :: s) := B_app [40] s
  have b2 : B (40 :: s) ++ B [41] = B (t0S s) := B_app (40 :: s) [41]
  have b3 : B [48,32,38,38,32,40] ++ B s = B ([48,32,38,38,32,40] ++ s) := B_app _ s
  have b4 : B ([48,32,38,38,32,40] ++ s) ++ B [41] = B (t1S s) := B_app _ [41]
  have b5 : B [55,32,124,124,32,40] ++ B s = B ([55,32,124,124,32,40] ++ s) := B_app _ s
  have b6 : B ([55,32,124,124,32,40] ++ s) ++ B [41] = B (t2S s) := B_app _ [41]
  have b7 : B [49,32,63,32,53,32,58,32,40] ++ B s = B ([49,32,63,32,53,32,58,32,40] ++ s) := B_app _ s
  have b8 : B ([49,32,63,32,53,32,58,32,40] ++ s) ++ B [41] = B (t3S s) := B_app _ [41]
  go_enter Tryd.func5, Tryd.ntmps5
  go_wp2_with fail
  refine HSH.out.mono ?_
  rintro e w1 ⟨rfl, hb⟩
  have HB1 := Lib.hid hb
  clear hb
  go_wp2_with fail
  refine (value_is H0.out (.slice none 0 0) _ (inv_nil _) (HP.out.below HB1.out) vs_nil (by simp)).mono ?_
  rintro e w2 ⟨a2, p2, rfl, hj, hb⟩
  have HB2 := Lib.hid (HB1.out.trans (hb.mono HB1.out.size))
  clear hj hb
  go_wp2_with fail
  refine (value_is H1.out (.slice none 0 0) _ (inv_nil _) (HP.out.below HB2.out) vs_nil (by simp)).mono ?_
  rintro e w3 ⟨a3, p3, rfl, hj, hb⟩
  have HB3 := Lib.hid (HB2.out.trans (hb.mono HB2.out.size))
  clear hj hb
  go_wp2
  go_ret
  exact ⟨rfl, HB3.out⟩
set_option maxHeartbeats 4000000 in
set_option maxRecDepth 100000 in
theorem skip_1 (s : Bytes) (w : World) (hP : HasP w) (hl : s.length ≤ 100) {v0 v1 v2 v3 v4 c0 c1 c2 c3 c4 : Int} {l0 l1 l2 l3 l4 : List VarS} (h0 : valueS s [] = (v0, l0, c0)) (h1 : valueS (t0S s) [] = (v1, l1, c1)) (h2 : valueS (t1S s) [] = (v2, l2, c2)) (h3 : valueS (t2S s) [] = (v3, l3, c3)) (h4 : valueS (t3S s) [] = (v4, l4, c4)) (k0 : ¬ c0 = 17) (k1 : c1 = 17) : Calls Tryd.prog 5 #[.string (B s)] w fun e w' => e = .returned (.bool true) ∧ Below w.heap.size w w' := by
  have H0 := Lib.hid h0
  have H1 := Lib.hid h1
  have H2 := Lib.hid h2
  have H3 := Lib.hid h3
  have H4 := Lib.hid h4
  have z0 : (c0 == 17) = false := by simpa using k0
  have z1 : (c1 == 17) = true := by simpa using k1
  clear k0 k1
  clear h0 h1 h2 h3 h4
  have HP := Lib.hid hP
  have HSH := Lib.hid (shown_any w hP)
  clear hP
  have hsz : (B s).size = s.length := rfl
  have hl1 : ¬ (100 : Int) < s.length := by omega
  have b1 : B [40] ++ B s = B (40 :: s) := B_app [40] s
  have b2 : B (40 :: s) ++ B [41] = B (t0S s) := B_app (40 :: s) [41]
  have b3 : B [48,32,38,38,32,40] ++ B s = B ([48,32,38,38,32,40] ++ s) := B_app _ s
  have b4 : B ([48,32,38,38,32,40] ++ s) ++ B [41] = B (t1S s) := B_app _ [41]
  have b5 : B [55,32,124,124,32,40] ++ B s = B ([55,32,124,124,32,40] ++ s) := B_app _ s
  have b6 : B ([55,32,124,124,32,40] ++ s) ++ B [41] = B (t2S s) := B_app _ [41]
  have b7 : B [49,32,63,32,53,32,58,32,40] ++ B s = B ([49,32,63,32,53,32,58,32,40] ++ s) := B_app _ s
  have b8 : B ([49,32,63,32,53,32,58,32,40] ++ s) ++ B [41] = B (t3S s) := B_app _ [41]
  go_enter Tryd.func5, Tryd.ntmps5
  go_wp2_with fail
  refine HSH.out.mono ?_
  rintro e w1 ⟨rfl, hb⟩
  have HB1 := Lib.hid hb
  clear hb
  go_wp2_with fail
  refine (value_is H0.out (.slice none 0 0) _ (inv_nil _) (HP.out.below HB1.out) vs_nil (by simp)).mono ?_
  rintro e w2 ⟨a2, p2, rfl, hj, hb⟩
  have HB2 := Lib.hid (HB1.out.trans (hb.mono HB1.out.size))
  clear hj hb
  go_wp2_with fail
  refine (value_is H1.out (.slice none 0 0) _ (inv_nil _) (HP.out.below HB2.out) vs_nil (by simp)).mono ?_
  rintro e w3 ⟨a3, p3, rfl, hj, hb⟩
  have HB3 := Lib.hid (HB2.out.trans (hb.mono HB2.out.size))
  clear hj hb
  go_wp2
  go_ret
  exact ⟨rfl, HB3.out⟩
set_option maxHeartbeats 4000000 in
set_option maxRecDepth 100000 in
theorem skip_2 (s : Bytes) (w : World) (hP : HasP w) (hl : s.length ≤ 100) {v0 v1 v2 v3 v4 c0 c1 c2 c3 c4 : Int} {l0 l1 l2 l3 l4 : List VarS} (h0 : valueS s [] = (v0, l0, c0)) (h1 : valueS (t0S s) [] = (v1, l1, c1)) (h2 : valueS (t1S s) [] = (v2, l2, c2)) (h3 : valueS (t2S s) [] = (v3, l3, c3)) (h4 : valueS (t3S s) [] = (v4, l4, c4)) (k0 : ¬ c0 = 17) (k1 : ¬ c1 = 17) (k2 : c2 = 17) : Calls Tryd.prog 5 #[.string (B s)] w fun e w' => e = .returned (.bool true) ∧ Below w.heap.size w w' := by
  have H0 := Lib.hid h0
  have H1 := Lib.hid h1
  have H2 := Lib.hid h2
  have H3 := Lib.hid h3
  have H4 := Lib.hid h4
  have z0 : (c0 == 17) = false := by simpa using k0
  have z1 : (c1 == 17) = false := by simpa using k1
  have z2 : (c2 == 17) = true := by simpa using k2
  clear k0 k1 k2
  clear h0 h1 h2 h3 h4
  have HP := Lib.hid hP
  have HSH := Lib.hid (shown_any w hP)
  clear hP
  have hsz : (B s).size = s.length := rfl
  have hl1 : ¬ (100 : Int) < s.length := by omega
  have b1 : B [40] ++ B s = B (40 :: s) := B_app [40] s
  have b2 : B (40 :: s) ++ B [41] = B (t0S s) := B_app (40 :: s) [41]
  have b3 : B [48,32,38,38,32,40] ++ B s = B ([48,32,38,38,32,40] ++ s) := B_app _ s
  have b4 : B ([48,32,38,38,32,40] ++ s) ++ B [41] = B (t1S s) := B_app _ [41]
  have b5 : B [55,32,124,124,32,40] ++ B s = B ([55,32,124,124,32,40] ++ s) := B_app _ s
  have b6 : B ([55,32,124,124,32,40] ++ s) ++ B [41] = B (t2S s) := B_app _ [41]
  have b7 : B [49,32,63,32,53,32,58,32,40] ++ B s = B ([49,32,63,32,53,32,58,32,40] ++ s) := B_app _ s
  have b8 : B ([49,32,63,32,53,32,58,32,40] ++ s) ++ B [41] = B (t3S s) := B_app _ [41]
  go_enter Tryd.func5, Tryd.ntmps5
  go_wp2_with fail
  refine HSH.out.mono ?_
  rintro e w1 ⟨rfl, hb⟩
  have HB1 := Lib.hid hb
  clear hb
  go_wp2_with fail
  refine (value_is H0.out (.slice none 0 0) _ (inv_nil _) (HP.out.below HB1.out) vs_nil (by simp)).mono ?_
  rintro e w2 ⟨a2, p2, rfl, hj, hb⟩
  have HB2 := Lib.hid (HB1.out.trans (hb.mono HB1.out.size))
  clear hj hb
  go_wp2_with fail
  refine (value_is H1.out (.slice none 0 0) _ (inv_nil _) (HP.out.below HB2.out) vs_nil (by simp)).mono ?_
  rintro e w3 ⟨a3, p3, rfl, hj, hb⟩
  have HB3 := Lib.hid (HB2.out.trans (hb.mono HB2.out.size))
  clear hj hb
  go_wp2_with fail
  refine (value_is H2.out (.slice none 0 0) _ (inv_nil _) (HP.out.below HB3.out) vs_nil (by simp)).mono ?_
  rintro e w4 ⟨a4, p4, rfl, hj, hb⟩
  have HB4 := Lib.hid (HB3.out.trans (hb.mono HB3.out.size))
  clear hj hb
  go_wp2_with fail
  refine (value_is H3.out (.slice none 0 0) _ (inv_nil _) (HP.out.below HB4.out) vs_nil (by simp)).mono ?_
  rintro e w5 ⟨a5, p5, rfl, hj, hb⟩
  have HB5 := Lib.hid (HB4.out.trans (hb.mono HB4.out.size))
  clear hj hb
  go_wp2_with fail
  refine (value_is H4.out (.slice none 0 0) _ (inv_nil _) (HP.out.below HB5.out) vs_nil (by simp)).mono ?_
  rintro e w6 ⟨a6, p6, rfl, hj, hb⟩
  have HB6 := Lib.hid (HB5.out.trans (hb.mono HB5.out.size))
  clear hj hb
  go_wp2
  go_ret
  exact ⟨rfl, HB6.out⟩
set_option maxHeartbeats 4000000 in
set_option maxRecDepth 100000 in
theorem skip_3 (s : Bytes) (w : World) (hP : HasP w) (hl : s.length ≤ 100) {v0 v1 v2 v3 v4 c0 c1 c2 c3 c4 : Int} {l0 l1 l2 l3 l4 : List VarS} (h0 : valueS s [] = (v0, l0, c0)) (h1 : valueS (t0S s) [] = (v1, l1, c1)) (h2 : valueS (t1S s) [] = (v2, l2, c2)) (h3 : valueS (t2S s) [] = (v3, l3, c3)) (h4 : valueS (t3S s) [] = (v4, l4, c4)) (k0 : ¬ c0 = 17) (k1 : ¬ c1 = 17) (k2 : ¬ c2 = 17) (k3 : c3 = 17) : Calls Tryd.prog 5 #[.string (B s)] w fun e w' => e = .returned (.bool true) ∧ Below w.heap.size w w' := by
  have H0 := Lib.hid h0
  have H1 := Lib.hid h1
  have H2 := Lib.hid h2
  have H3 := Lib.hid h3
  have H4 := Lib.hid h4
  have z0 : (c0 == 17) = false := by simpa using k0
  have z1 : (c1 == 17) = false := by simpa using k1
  have z2 : (c2 == 17) = false := by simpa using k2
  have z3 : (c3 == 17) = true := by simpa using k3
  clear k0 k1 k2 k3
  clear h0 h1 h2 h3 h4
  have HP := Lib.hid hP
  have HSH := Lib.hid (shown_any w hP)
  clear hP
  have hsz : (B s).size = s.length := rfl
  have hl1 : ¬ (100 : Int) < s.length := by omega
  have b1 : B [40] ++ B s = B (40 :: s) := B_app [40] s
  have b2 : B (40 :: s) ++ B [41] = B (t0S s) := B_app (40 :: s) [41]
  have b3 : B [48,32,38,38,32,40] ++ B s = B ([48,32,38,38,32,40] ++ s) := B_app _ s
  have b4 : B ([48,32,38,38,32,40] ++ s) ++ B [41] = B (t1S s) := B_app _ [41]
  have b5 : B [55,32,124,124,32,40] ++ B s = B ([55,32,124,124,32,40] ++ s) := B_app _ s
  have b6 : B ([55,32,124,124,32,40] ++ s) ++ B [41] = B (t2S s) := B_app _ [41]
  have b7 : B [49,32,63,32,53,32,58,32,40] ++ B s = B ([49,32,63,32,53,32,58,32,40] ++ s) := B_app _ s
  have b8 : B ([49,32,63,32,53,32,58,32,40] ++ s) ++ B [41] = B (t3S s) := B_app _ [41]
  go_enter Tryd.func5, Tryd.ntmps5
  go_wp2_with fail
  refine HSH.out.mono ?_
  rintro e w1 ⟨rfl, hb⟩
  have HB1 := Lib.hid hb
  clear hb
  go_wp2_with fail
  refine (value_is H0.out (.slice none 0 0) _ (inv_nil _) (HP.out.below HB1.out) vs_nil (by simp)).mono ?_
  rintro e w2 ⟨a2, p2, rfl, hj, hb⟩
  have HB2 := Lib.hid (HB1.out.trans (hb.mono HB1.out.size))
  clear hj hb
  go_wp2_with fail
  refine (value_is H1.out (.slice none 0 0) _ (inv_nil _) (HP.out.below HB2.out) vs_nil (by simp)).mono ?_
  rintro e w3 ⟨a3, p3, rfl, hj, hb⟩
  have HB3 := Lib.hid (HB2.out.trans (hb.mono HB2.out.size))
  clear hj hb
  go_wp2_with fail
  refine (value_is H2.out (.slice none 0 0) _ (inv_nil _) (HP.out.below HB3.out) vs_nil (by simp)).mono ?_
  rintro e w4 ⟨a4, p4, rfl, hj, hb⟩
  have HB4 := Lib.hid (HB3.out.trans (hb.mono HB3.out.size))
  clear hj hb
  go_wp2_with fail
  refine (value_is H3.out (.slice none 0 0) _ (inv_nil _) (HP.out.below HB4.out) vs_nil (by simp)).mono ?_
  rintro e w5 ⟨a5, p5, rfl, hj, hb⟩
  have HB5 := Lib.hid (HB4.out.trans (hb.mono HB4.out.size))
  clear hj hb
  go_wp2_with fail
  refine (value_is H4.out (.slice none 0 0) _ (inv_nil _) (HP.out.below HB5.out) vs_nil (by simp)).mono ?_
  rintro e w6 ⟨a6, p6, rfl, hj, hb⟩
  have HB6 := Lib.hid (HB5.out.trans (hb.mono HB5.out.size))
  clear hj hb
  go_wp2
  go_ret
  exact ⟨rfl, HB6.out⟩
set_option maxHeartbeats 4000000 in
set_option maxRecDepth 100000 in
theorem skip_4 (s : Bytes) (w : World) (hP : HasP w) (hl : s.length ≤ 100) {v0 v1 v2 v3 v4 c0 c1 c2 c3 c4 : Int} {l0 l1 l2 l3 l4 : List VarS} (h0 : valueS s [] = (v0, l0, c0)) (h1 : valueS (t0S s) [] = (v1, l1, c1)) (h2 : valueS (t1S s) [] = (v2, l2, c2)) (h3 : valueS (t2S s) [] = (v3, l3, c3)) (h4 : valueS (t3S s) [] = (v4, l4, c4)) (k0 : ¬ c0 = 17) (k1 : ¬ c1 = 17) (k2 : ¬ c2 = 17) (k3 : ¬ c3 = 17) (k4 : c4 = 17) : Calls Tryd.prog 5 #[.string (B s)] w fun e w' => e = .returned (.bool true) ∧ Below w.heap.size w w' := by
  have H0 := Lib.hid h0
  have H1 := Lib.hid h1
  have H2 := Lib.hid h2
  have H3 := Lib.hid h3
  have H4 := Lib.hid h4
  have z0 : (c0 == 17) = false := by simpa using k0
  have z1 : (c1 == 17) = false := by simpa using k1
  have z2 : (c2 == 17) = false := by simpa using k2
  have z3 : (c3 == 17) = false := by simpa using k3
  have z4 : (c4 == 17) = true := by simpa using k4
  clear k0 k1 k2 k3 k4
  clear h0 h1 h2 h3 h4
  have HP := Lib.hid hP
  have HSH := Lib.hid (shown_any w hP)
  clear hP
  have hsz : (B s).size = s.length := rfl
  have hl1 : ¬ (100 : Int) < s.length := by omega
  have b1 : B [40] ++ B s = B (40 :: s) := B_app [40] s
  have b2 : B (40 :: s) ++ B [41] = B (t0S s) := B_app (40 :: s) [41]
  have b3 : B [48,32,38,38,32,40] ++ B s = B ([48,32,38,38,32,40] ++ s) := B_app _ s
  have b4 : B ([48,32,38,38,32,40] ++ s) ++ B [41] = B (t1S s) := B_app _ [41]
  have b5 : B [55,32,124,124,32,40] ++ B s = B ([55,32,124,124,32,40] ++ s) := B_app _ s
  have b6 : B ([55,32,124,124,32,40] ++ s) ++ B [41] = B (t2S s) := B_app _ [41]
  have b7 : B [49,32,63,32,53,32,58,32,40] ++ B s = B ([49,32,63,32,53,32,58,32,40] ++ s) := B_app _ s
  have b8 : B ([49,32,63,32,53,32,58,32,40] ++ s) ++ B [41] = B (t3S s) := B_app _ [41]
  go_enter Tryd.func5, Tryd.ntmps5
  go_wp2_with fail
  refine HSH.out.mono ?_
  rintro e w1 ⟨rfl, hb⟩
  have HB1 := Lib.hid hb
  clear hb
  go_wp2_with fail
  refine (value_is H0.out (.slice none 0 0) _ (inv_nil _) (HP.out.below HB1.out) vs_nil (by simp)).mono ?_
  rintro e w2 ⟨a2, p2, rfl, hj, hb⟩
  have HB2 := Lib.hid (HB1.out.trans (hb.mono HB1.out.size))
  clear hj hb
  go_wp2_with fail
  refine (value_is H1.out (.slice none 0 0) _ (inv_nil _) (HP.out.below HB2.out) vs_nil (by simp)).mono ?_
  rintro e w3 ⟨a3, p3, rfl, hj, hb⟩
  have HB3 := Lib.hid (HB2.out.trans (hb.mono HB2.out.size))
  clear hj hb
  go_wp2_with fail
  refine (value_is H2.out (.slice none 0 0) _ (inv_nil _) (HP.out.below HB3.out) vs_nil (by simp)).mono ?_
  rintro e w4 ⟨a4, p4, rfl, hj, hb⟩
  have HB4 := Lib.hid (HB3.out.trans (hb.mono HB3.out.size))
  clear hj hb
  go_wp2_with fail
  refine (value_is H3.out (.slice none 0 0) _ (inv_nil _) (HP.out.below HB4.out) vs_nil (by simp)).mono ?_
  rintro e w5 ⟨a5, p5, rfl, hj, hb⟩
  have HB5 := Lib.hid (HB4.out.trans (hb.mono HB4.out.size))
  clear hj hb
  go_wp2_with fail
  refine (value_is H4.out (.slice none 0 0) _ (inv_nil _) (HP.out.below HB5.out) vs_nil (by simp)).mono ?_
  rintro e w6 ⟨a6, p6, rfl, hj, hb⟩
  have HB6 := Lib.hid (HB5.out.trans (hb.mono HB5.out.size))
  clear hj hb
  go_wp2
  go_ret
  exact ⟨rfl, HB6.out⟩
set_option maxHeartbeats 4000000 in
set_option maxRecDepth 100000 in
theorem skip_5 (s : Bytes) (w : World) (hP : HasP w) (hl : s.length ≤ 100) {v0 v1 c0 c1 : Int} {l0 l1 : List VarS} (h0 : valueS s [] = (v0, l0, c0)) (h1 : valueS (t0S s) [] = (v1, l1, c1)) (h2 : valueS (t1S s) [] = (0, [], 0)) (h3 : valueS (t2S s) [] = (1, [], 0)) (h4 : valueS (t3S s) [] = (5, [], 0)) (k0 : ¬ c0 = 17) (k1 : ¬ c1 = 17) : Calls Tryd.prog 5 #[.string (B s)] w fun e w' => e = .returned (.bool true) ∧ Below w.heap.size w w' := by
  have H0 := Lib.hid h0
  have H1 := Lib.hid h1
  have H2 := Lib.hid h2
  have H3 := Lib.hid h3
  have H4 := Lib.hid h4
  have z0 : (c0 == 17) = false := by simpa using k0
  have z1 : (c1 == 17) = false := by simpa using k1
  clear k0 k1
  clear h0 h1 h2 h3 h4
  have HP := Lib.hid hP
  have HSH := Lib.hid (shown_any w hP)
  clear hP
  have hsz : (B s).size = s.length := rfl
  have hl1 : ¬ (100 : Int) < s.length := by omega
  have b1 : B [40] ++ B s = B (40 :: s) := B_app [40] s
  have b2 : B (40 :: s) ++ B [41] = B (t0S s) := B_app (40 :: s) [41]
  have b3 : B [48,32,38,38,32,40] ++ B s = B ([48,32,38,38,32,40] ++ s) := B_app _ s
  have b4 : B ([48,32,38,38,32,40] ++ s) ++ B [41] = B (t1S s) := B_app _ [41]
  have b5 : B [55,32,124,124,32,40] ++ B s = B ([55,32,124,124,32,40] ++ s) := B_app _ s
  have b6 : B ([55,32,124,124,32,40] ++ s) ++ B [41] = B (t2S s) := B_app _ [41]
  have b7 : B [49,32,63,32,53,32,58,32,40] ++ B s = B ([49,32,63,32,53,32,58,32,40] ++ s) := B_app _ s
  have b8 : B ([49,32,63,32,53,32,58,32,40] ++ s) ++ B [41] = B (t3S s) := B_app _ [41]
  go_enter Tryd.func5, Tryd.ntmps5
  go_wp2_with fail
  refine HSH.out.mono ?_
  rintro e w1 ⟨rfl, hb⟩
  have HB1 := Lib.hid hb
  clear hb
  go_wp2_with fail
  refine (value_is H0.out (.slice none 0 0) _ (inv_nil _) (HP.out.below HB1.out) vs_nil (by simp)).mono ?_
  rintro e w2 ⟨a2, p2, rfl, hj, hb⟩
  have HB2 := Lib.hid (HB1.out.trans (hb.mono HB1.out.size))
  clear hj hb
  go_wp2_with fail
  refine (value_is H1.out (.slice none 0 0) _ (inv_nil _) (HP.out.below HB2.out) vs_nil (by simp)).mono ?_
  rintro e w3 ⟨a3, p3, rfl, hj, hb⟩
  have HB3 := Lib.hid (HB2.out.trans (hb.mono HB2.out.size))
  clear hj hb
  go_wp2_with fail
  refine (value_is H2.out (.slice none 0 0) _ (inv_nil _) (HP.out.below HB3.out) vs_nil (by simp)).mono ?_
  rintro e w4 ⟨a4, p4, rfl, hj, hb⟩
  have HB4 := Lib.hid (HB3.out.trans (hb.mono HB3.out.size))
  clear hj hb
  go_wp2_with fail
  refine (value_is H3.out (.slice none 0 0) _ (inv_nil _) (HP.out.below HB4.out) vs_nil (by simp)).mono ?_
  rintro e w5 ⟨a5, p5, rfl, hj, hb⟩
  have HB5 := Lib.hid (HB4.out.trans (hb.mono HB4.out.size))
  clear hj hb
  go_wp2_with fail
  refine (value_is H4.out (.slice none 0 0) _ (inv_nil _) (HP.out.below HB5.out) vs_nil (by simp)).mono ?_
  rintro e w6 ⟨a6, p6, rfl, hj, hb⟩
  have HB6 := Lib.hid (HB5.out.trans (hb.mono HB5.out.size))
  clear hj hb
  go_wp2
  go_ret
  exact ⟨rfl, HB6.out⟩
theorem skips_law (s : Bytes) (w : World) (hP : HasP w) : Calls Tryd.prog 5 #[.string (B s)] w fun e w' => e = .returned (.bool true) ∧ Below w.heap.size w w' := by
  by_cases hl : 100 < s.length
  · exact skip_long s w hP hl
  have hl : s.length ≤ 100 := by omega
  by_cases k0 : (valueS s []).2.2 = 17
  · exact skip_0 s w hP hl rfl rfl rfl rfl rfl k0
  by_cases k1 : (valueS (t0S s) []).2.2 = 17
  · exact skip_1 s w hP hl rfl rfl rfl rfl rfl k0 k1
  by_cases k2 : (valueS (t1S s) []).2.2 = 17
  · exact skip_2 s w hP hl rfl rfl rfl rfl rfl k0 k1 k2
  by_cases k3 : (valueS (t2S s) []).2.2 = 17
  · exact skip_3 s w hP hl rfl rfl rfl rfl rfl k0 k1 k2 k3
  by_cases k4 : (valueS (t3S s) []).2.2 = 17
  · exact skip_4 s w hP hl rfl rfl rfl rfl rfl k0 k1 k2 k3 k4
  obtain ⟨e2, e3, e4⟩ := skips k0 k1 k2 k3 k4
  exact skip_5 s w hP hl rfl rfl e2 e3 e4 k0 k1
set_option maxHeartbeats 4000000 in
set_option maxRecDepth 100000 in
theorem sets_law (n k : Int) (hn : IsI n) (hk : IsI k) (w : World) (hP : HasP w) : Calls Tryd.prog 4 #[.int .i64 n, .int .i64 k] w fun e w' => e = .returned (.bool true) ∧ Below w.heap.size w w' := by
  have HN := Lib.hid hn
  have HK := Lib.hid hk
  have HP := Lib.hid hP
  have HSH := Lib.hid (shown_any w hP)
  clear hP
  have HV : Hid (valueS (setS n k) [] = (wrap64 (wrap64 (wrap64 (n + n) + wrap64 (n + k)) + wrap64 (n * 2)), [⟨[121], decI (wrap64 (n + k))⟩, ⟨[120], decI (wrap64 (n * 2))⟩], 0)) := Lib.hid (by have h := val_set hn hk; simp only [w64_wrap] at h; exact h)
  have HI1 : Hid (IsI (wrap64 (n + k))) := Lib.hid (by rw [← w64_wrap]; exact w64_is _)
  have HI2 : Hid (IsI (wrap64 (n * 2))) := Lib.hid (by rw [← w64_wrap]; exact w64_is _)
  have hb1 : (B (decI n)).size ≤ 20 := decI_len hn
  have hb2 : (B (decI k)).size ≤ 20 := decI_len hk
  have b1 : B [40,121,32,61,32] ++ B (decI n) = B ([40,121,32,61,32] ++ decI n) := B_app _ _
  have b2 : B ([40,121,32,61,32] ++ decI n) ++ B [41,32,43,32,40,120,32,61,32,121,41,32,43,32,40,121,32,43,61,32] = B (([40,121,32,61,32] ++ decI n) ++ [41,32,43,32,40,120,32,61,32,121,41,32,43,32,40,121,32,43,61,32]) := B_app _ _
  have b3 : B (([40,121,32,61,32] ++ decI n) ++ [41,32,43,32,40,120,32,61,32,121,41,32,43,32,40,121,32,43,61,32]) ++ B (decI k) = B ((([40,121,32,61,32] ++ decI n) ++ [41,32,43,32,40,120,32,61,32,121,41,32,43,32,40,121,32,43,61,32]) ++ decI k) := B_app _ _
  have b4 : B ((([40,121,32,61,32] ++ decI n) ++ [41,32,43,32,40,120,32,61,32,121,41,32,43,32,40,121,32,43,61,32]) ++ decI k) ++ B [41,32,43,32,40,120,32,60,60,61,32,49,41] = B (setS n k) := by
    rw [B_app]
    congr 1
    unfold setS p2S p3S p4S
    simp
  have HCAT : Hid (B [40,121,32,61,32] ++ B (decI n) ++ B [41,32,43,32,40,120,32,61,32,121,41,32,43,32,40,121,32,43,61,32] ++ B (decI k) ++ B [41,32,43,32,40,120,32,60,60,61,32,49,41] = B (setS n k)) := Lib.hid (by rw [b1, b2, b3, b4])
  clear b1 b2 b3 b4 hn hk
  have HDN := Lib.hid (digits_any n HN.out)
  have HDK := Lib.hid (digits_any k HK.out)
  have HD1 := Lib.hid (digits_any _ HI1.out)
  have HD2 := Lib.hid (digits_any _ HI2.out)
  have HVA := Lib.hid (fun w hP => value_is HV.out (.slice none 0 0) w (inv_nil w) hP vs_nil (by simp))
  rw [← HCAT.out] at HVA
  have HTV := Lib.hid (fun w => two_varsX w (wrap64 (n + k)) (wrap64 (n * 2)))
  clear HV HCAT HI1 HI2
  generalize decI n = dn at *
  generalize decI k = dk at *
  go_enter Tryd.func4, Tryd.ntmps4
  go_wp2_with fail
  refine HSH.out.mono ?_
  rintro e w1 ⟨rfl, hb⟩
  have HB1 := Lib.hid hb
  clear hb
  go_wp2_with fail
  refine (HDN.out _).mono ?_
  rintro e w2 ⟨rfl, hb⟩
  have HB2 := Lib.hid (HB1.out.trans (hb.mono HB1.out.size))
  clear hb
  go_wp2_with fail
  refine (HDK.out _).mono ?_
  rintro e w3 ⟨rfl, hb⟩
  have HB3 := Lib.hid (HB2.out.trans (hb.mono HB2.out.size))
  clear hb
  go_wp2_with fail
  refine (HVA.out _ (HP.out.below HB3.out)).mono ?_
  rintro e w4 ⟨a4, p4, rfl, hj, hb⟩
  have HB4 := Lib.hid (HB3.out.trans (hb.mono HB3.out.size))
  have HJ4 := Lib.hid hj
  clear hj hb
  go_wp2_with fail
  refine (HD1.out _).mono ?_
  rintro e w5 ⟨rfl, hb⟩
  have HB5 := Lib.hid (HB4.out.trans (hb.mono HB4.out.size))
  have HJ5 := Lib.hid (HJ4.out.below hb)
  clear hb
  go_wp2_with fail
  refine (HD2.out _).mono ?_
  rintro e w6 ⟨rfl, hb⟩
  have HB6 := Lib.hid (HB5.out.trans (hb.mono HB5.out.size))
  have HJ6 := Lib.hid (HJ5.out.below hb)
  have HBA := Lib.hid ((Below.refl w6.heap.size w6).alloc (Nat.le_refl _) (.cells #[.string (B [121]), .string (B (decI (wrap64 (n + k)))), .bool false, .bool false, .string (B [120]), .string (B (decI (wrap64 (n * 2)))), .bool false, .bool false] 25))
  clear hb
  by_cases tn : n < 0
  · have un : decide (n < 0) = true := decide_eq_true tn
    cases qn : (n == wrap64 (-n)) with
    | true =>
      go_wp2
      go_ret
      exact ⟨rfl, HB6.out.trans (HBA.out.mono HB6.out.size)⟩
    | false =>
      by_cases tk : k < 0
      · have uk : decide (k < 0) = true := decide_eq_true tk
        cases qk : (k == wrap64 (-k)) with
        | true =>
          go_wp2
          go_ret
          exact ⟨rfl, HB6.out.trans (HBA.out.mono HB6.out.size)⟩
        | false =>
          go_wp2_with fail
          refine (same_eq _ _ _ _ (HJ6.out.below HBA.out) (HTV.out w6) (by simp)).mono ?_
          rintro e w7 ⟨rfl, hb⟩
          have HB7 := Lib.hid ((HB6.out.trans (HBA.out.mono HB6.out.size)).trans (hb.mono (HB6.out.trans (HBA.out.mono HB6.out.size)).size))
          clear hb
          go_wp2
          go_ret
          exact ⟨rfl, HB7.out⟩
      · have uk : decide (k < 0) = false := decide_eq_false tk
        go_wp2_with fail
        refine (same_eq _ _ _ _ (HJ6.out.below HBA.out) (HTV.out w6) (by simp)).mono ?_
        rintro e w7 ⟨rfl, hb⟩
        have HB7 := Lib.hid ((HB6.out.trans (HBA.out.mono HB6.out.size)).trans (hb.mono (HB6.out.trans (HBA.out.mono HB6.out.size)).size))
        clear hb
        go_wp2
        go_ret
        exact ⟨rfl, HB7.out⟩
  · have un : decide (n < 0) = false := decide_eq_false tn
    by_cases tk : k < 0
    · have uk : decide (k < 0) = true := decide_eq_true tk
      cases qk : (k == wrap64 (-k)) with
      | true =>
        go_wp2
        go_ret
        exact ⟨rfl, HB6.out.trans (HBA.out.mono HB6.out.size)⟩
      | false =>
        go_wp2_with fail
        refine (same_eq _ _ _ _ (HJ6.out.below HBA.out) (HTV.out w6) (by simp)).mono ?_
        rintro e w7 ⟨rfl, hb⟩
        have HB7 := Lib.hid ((HB6.out.trans (HBA.out.mono HB6.out.size)).trans (hb.mono (HB6.out.trans (HBA.out.mono HB6.out.size)).size))
        clear hb
        go_wp2
        go_ret
        exact ⟨rfl, HB7.out⟩
    · have uk : decide (k < 0) = false := decide_eq_false tk
      go_wp2_with fail
      refine (same_eq _ _ _ _ (HJ6.out.below HBA.out) (HTV.out w6) (by simp)).mono ?_
      rintro e w7 ⟨rfl, hb⟩
      have HB7 := Lib.hid ((HB6.out.trans (HBA.out.mono HB6.out.size)).trans (hb.mono (HB6.out.trans (HBA.out.mono HB6.out.size)).size))
      clear hb
      go_wp2
      go_ret
      exact ⟨rfl, HB7.out⟩
end Go.Proofs.YtpjjdaenckedbaaDoor
