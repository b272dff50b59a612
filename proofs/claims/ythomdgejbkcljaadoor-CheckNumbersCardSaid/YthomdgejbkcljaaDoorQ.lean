/- CheckNumbers. -/
import Derived.Test.YthomdgejbkcljaaDoorP
namespace Go.Proofs.YthomdgejbkcljaaDoor
open Go.RowKit

theorem tri_tells {x y op : ByteArray} {t : Bool × Bool × Bool} {a b : Int} (h1 : ¬ op = b1 61) (h2 : ¬ op = b2 33 61) (ht : tri op = some t) (hx : numS x.data.toList = some a) (hy : numS y.data.toList = some b) :
    numOf (tellS [x, op, y] []) = truthN (pick3 t (cmpN a b)) := by
  have h : twoS x op y = some (truthN (pick3 t (cmpN a b))) := by
    rw [twoS_tri h1 h2, ht, hx, hy]
  show numOf (t3 x op y []) = _
  unfold t3
  rw [h]; rfl
theorem b3_1 (a b c d : UInt8) : ¬ b3 a b c = b1 d := fun h => by
  have := congrArg (fun x : ByteArray => x.data.toList) h
  simp [b3, b1] at this
theorem b3_2 (a b c d e : UInt8) : ¬ b3 a b c = b2 d e := fun h => by
  have := congrArg (fun x : ByteArray => x.data.toList) h
  simp [b3, b2] at this
theorem dec_size {s : ByteArray} {a : Int} (h : a.natAbs < 10 ^ 18) (hs : s.data.toList = decS a) : s.size ≤ 140737488355328 := by
  have h1 := (decD_facts 17 a.natAbs h).2.1
  have h2 : s.size = (decS a).length := by rw [← size_list, hs]
  have h3 : (decS a).length ≤ 19 := by
    unfold decS
    split
    · simp only [List.length_cons]; omega
    · omega
  omega
theorem truth_zero (b : Bool) : ((truthN b : Int) == 0) = b := by cases b <;> rfl
set_option maxHeartbeats 2000000 in
set_option maxRecDepth 100000 in
/-- CheckNumbers. -/
theorem numbers_law (a b : Int) (w : World) : Calls Tryd.prog 4 #[.int .i64 a, .int .i64 b] w fun e w' => e = .returned (.bool true) ∧ Below w.heap.size w w' := by
  have hp : (a.tmod 1000000000000000000).natAbs < 10 ^ 18 := by
    rw [Int.natAbs_tmod]; exact Nat.mod_lt _ (by decide)
  have hq : (b.tmod 1000000000000000000).natAbs < 10 ^ 18 := by
    rw [Int.natAbs_tmod]; exact Nat.mod_lt _ (by decide)
  have HP := Lib.hid (And.intro hp hq)
  clear hp hq
  go_enter Tryd.func4, Tryd.ntmps4
  go_wp2_with fail
  refine (shown_any _).mono ?_
  rintro e w1 ⟨rfl, hb⟩
  have HB := Lib.hid hb
  clear hb
  go_upto_region 4 with fail
  generalize a.tmod 1000000000000000000 = p at *
  generalize b.tmod 1000000000000000000 = q at *
  go_wp2_with fail
  refine (digits_any p HP.out.1 _).mono ?_
  rintro e w2 ⟨sx, hsx, rfl, hb⟩
  replace HB := Lib.hid (HB.out.trans (hb.mono HB.out.size))
  clear hb
  go_wp2_with fail
  refine (digits_any q HP.out.2 _).mono ?_
  rintro e w3 ⟨sy, hsy, rfl, hb⟩
  replace HB := Lib.hid (HB.out.trans (hb.mono HB.out.size))
  clear hb
  have HNUM : Hid (∀ (op : ByteArray) (t : Bool × Bool × Bool), tri op = some t → ¬ op = b1 61 → ¬ op = b2 33 61 → numOf (tellS [sx, op, sy] []) = truthN (pick3 t (cmpN p q))) := Lib.hid (fun op t ht h1 h2 => tri_tells h1 h2 ht (by rw [hsx]; exact num_dec p HP.out.1) (by rw [hsy]; exact num_dec q HP.out.2))
  have HSZ : Hid (∀ op : ByteArray, op.size ≤ 140737488355328 → ∀ s ∈ [sx, op, sy], s.size ≤ 140737488355328) := Lib.hid (fun op ho s hs => by
    simp only [List.mem_cons, List.not_mem_nil, or_false] at hs
    rcases hs with rfl | rfl | rfl
    · exact dec_size HP.out.1 hsx
    · exact ho
    · exact dec_size HP.out.2 hsy)
  clear hsx hsy
  have hcase : (p < q ∧ ¬ p = q ∧ ¬ q < p ∧ cmpN p q = 0) ∨ (¬ p < q ∧ p = q ∧ ¬ q < p ∧ cmpN p q = 1) ∨ (¬ p < q ∧ ¬ p = q ∧ q < p ∧ cmpN p q = 2) := by
    unfold cmpN
    rcases Int.lt_trichotomy p q with h | h | h
    · exact .inl ⟨h, by omega, by omega, if_pos h⟩
    · exact .inr (.inl ⟨by omega, h, by omega, by rw [if_neg (by omega), if_pos h]⟩)
    · exact .inr (.inr ⟨by omega, by omega, h, by rw [if_neg (by omega), if_neg (by omega)]⟩)
  rcases hcase with ⟨k1, k2, k3, hc⟩ | ⟨k1, k2, k3, hc⟩ | ⟨k1, k2, k3, hc⟩
  · have HC := Lib.hid hc
    clear hc
    go_wp2_with fail
    refine (lt_lit (L := [sx, ⟨#[45, 108, 116]⟩, sy]) (n := 0) (by rw [HNUM.out ⟨#[45, 108, 116]⟩ (true, false, false) (by decide) (b3_1 _ _ _ _) (b3_2 _ _ _ _ _), HC.out]; rfl) (HSZ.out _ (by decide)) (argS_new _ _)).mono ?_
    rintro e wn ⟨rfl, hb⟩
    replace HB := Lib.hid ((HB.out.alloc HB.out.size (Obj.cells #[.string sx, .string ⟨#[45, 108, 116]⟩, .string sy] 9)).trans (hb.mono (Nat.le_trans HB.out.size (by simp))))
    clear hb
    go_wp2_with fail
    refine (lt_lit (L := [sx, ⟨#[45, 101, 113]⟩, sy]) (n := 1) (by rw [HNUM.out ⟨#[45, 101, 113]⟩ (false, true, false) (by decide) (b3_1 _ _ _ _) (b3_2 _ _ _ _ _), HC.out]; rfl) (HSZ.out _ (by decide)) (argS_new _ _)).mono ?_
    rintro e wn ⟨rfl, hb⟩
    replace HB := Lib.hid ((HB.out.alloc HB.out.size (Obj.cells #[.string sx, .string ⟨#[45, 101, 113]⟩, .string sy] 9)).trans (hb.mono (Nat.le_trans HB.out.size (by simp))))
    clear hb
    go_wp2_with fail
    refine (lt_lit (L := [sx, ⟨#[45, 103, 116]⟩, sy]) (n := 1) (by rw [HNUM.out ⟨#[45, 103, 116]⟩ (false, false, true) (by decide) (b3_1 _ _ _ _) (b3_2 _ _ _ _ _), HC.out]; rfl) (HSZ.out _ (by decide)) (argS_new _ _)).mono ?_
    rintro e wn ⟨rfl, hb⟩
    replace HB := Lib.hid ((HB.out.alloc HB.out.size (Obj.cells #[.string sx, .string ⟨#[45, 103, 116]⟩, .string sy] 9)).trans (hb.mono (Nat.le_trans HB.out.size (by simp))))
    clear hb
    go_wp2_with fail
    refine (lt_lit (L := [sx, ⟨#[45, 108, 101]⟩, sy]) (n := 0) (by rw [HNUM.out ⟨#[45, 108, 101]⟩ (true, true, false) (by decide) (b3_1 _ _ _ _) (b3_2 _ _ _ _ _), HC.out]; rfl) (HSZ.out _ (by decide)) (argS_new _ _)).mono ?_
    rintro e wn ⟨rfl, hb⟩
    replace HB := Lib.hid ((HB.out.alloc HB.out.size (Obj.cells #[.string sx, .string ⟨#[45, 108, 101]⟩, .string sy] 9)).trans (hb.mono (Nat.le_trans HB.out.size (by simp))))
    clear hb
    go_wp2_with fail
    refine (lt_lit (L := [sx, ⟨#[45, 103, 101]⟩, sy]) (n := 1) (by rw [HNUM.out ⟨#[45, 103, 101]⟩ (false, true, true) (by decide) (b3_1 _ _ _ _) (b3_2 _ _ _ _ _), HC.out]; rfl) (HSZ.out _ (by decide)) (argS_new _ _)).mono ?_
    rintro e wn ⟨rfl, hb⟩
    replace HB := Lib.hid ((HB.out.alloc HB.out.size (Obj.cells #[.string sx, .string ⟨#[45, 103, 101]⟩, .string sy] 9)).trans (hb.mono (Nat.le_trans HB.out.size (by simp))))
    clear hb
    go_wp2_with fail
    refine (lt_lit (L := [sx, ⟨#[45, 110, 101]⟩, sy]) (n := 0) (by rw [HNUM.out ⟨#[45, 110, 101]⟩ (true, false, true) (by decide) (b3_1 _ _ _ _) (b3_2 _ _ _ _ _), HC.out]; rfl) (HSZ.out _ (by decide)) (argS_new _ _)).mono ?_
    rintro e wn ⟨rfl, hb⟩
    replace HB := Lib.hid ((HB.out.alloc HB.out.size (Obj.cells #[.string sx, .string ⟨#[45, 110, 101]⟩, .string sy] 9)).trans (hb.mono (Nat.le_trans HB.out.size (by simp))))
    clear hb
    have BE : (p == q) = false := by simp; exact k2
    go_wp2
    go_ret
    exact ⟨by simp [k1, k3, BE], HB.out⟩
  · have HC := Lib.hid hc
    clear hc
    subst k2
    go_wp2_with fail
    refine (lt_lit (L := [sx, ⟨#[45, 108, 116]⟩, sy]) (n := 1) (by rw [HNUM.out ⟨#[45, 108, 116]⟩ (true, false, false) (by decide) (b3_1 _ _ _ _) (b3_2 _ _ _ _ _), HC.out]; rfl) (HSZ.out _ (by decide)) (argS_new _ _)).mono ?_
    rintro e wn ⟨rfl, hb⟩
    replace HB := Lib.hid ((HB.out.alloc HB.out.size (Obj.cells #[.string sx, .string ⟨#[45, 108, 116]⟩, .string sy] 9)).trans (hb.mono (Nat.le_trans HB.out.size (by simp))))
    clear hb
    go_wp2_with fail
    refine (lt_lit (L := [sx, ⟨#[45, 101, 113]⟩, sy]) (n := 0) (by rw [HNUM.out ⟨#[45, 101, 113]⟩ (false, true, false) (by decide) (b3_1 _ _ _ _) (b3_2 _ _ _ _ _), HC.out]; rfl) (HSZ.out _ (by decide)) (argS_new _ _)).mono ?_
    rintro e wn ⟨rfl, hb⟩
    replace HB := Lib.hid ((HB.out.alloc HB.out.size (Obj.cells #[.string sx, .string ⟨#[45, 101, 113]⟩, .string sy] 9)).trans (hb.mono (Nat.le_trans HB.out.size (by simp))))
    clear hb
    go_wp2_with fail
    refine (lt_lit (L := [sx, ⟨#[45, 103, 116]⟩, sy]) (n := 1) (by rw [HNUM.out ⟨#[45, 103, 116]⟩ (false, false, true) (by decide) (b3_1 _ _ _ _) (b3_2 _ _ _ _ _), HC.out]; rfl) (HSZ.out _ (by decide)) (argS_new _ _)).mono ?_
    rintro e wn ⟨rfl, hb⟩
    replace HB := Lib.hid ((HB.out.alloc HB.out.size (Obj.cells #[.string sx, .string ⟨#[45, 103, 116]⟩, .string sy] 9)).trans (hb.mono (Nat.le_trans HB.out.size (by simp))))
    clear hb
    go_wp2_with fail
    refine (lt_lit (L := [sx, ⟨#[45, 108, 101]⟩, sy]) (n := 0) (by rw [HNUM.out ⟨#[45, 108, 101]⟩ (true, true, false) (by decide) (b3_1 _ _ _ _) (b3_2 _ _ _ _ _), HC.out]; rfl) (HSZ.out _ (by decide)) (argS_new _ _)).mono ?_
    rintro e wn ⟨rfl, hb⟩
    replace HB := Lib.hid ((HB.out.alloc HB.out.size (Obj.cells #[.string sx, .string ⟨#[45, 108, 101]⟩, .string sy] 9)).trans (hb.mono (Nat.le_trans HB.out.size (by simp))))
    clear hb
    go_wp2_with fail
    refine (lt_lit (L := [sx, ⟨#[45, 103, 101]⟩, sy]) (n := 0) (by rw [HNUM.out ⟨#[45, 103, 101]⟩ (false, true, true) (by decide) (b3_1 _ _ _ _) (b3_2 _ _ _ _ _), HC.out]; rfl) (HSZ.out _ (by decide)) (argS_new _ _)).mono ?_
    rintro e wn ⟨rfl, hb⟩
    replace HB := Lib.hid ((HB.out.alloc HB.out.size (Obj.cells #[.string sx, .string ⟨#[45, 103, 101]⟩, .string sy] 9)).trans (hb.mono (Nat.le_trans HB.out.size (by simp))))
    clear hb
    go_wp2_with fail
    refine (lt_lit (L := [sx, ⟨#[45, 110, 101]⟩, sy]) (n := 1) (by rw [HNUM.out ⟨#[45, 110, 101]⟩ (true, false, true) (by decide) (b3_1 _ _ _ _) (b3_2 _ _ _ _ _), HC.out]; rfl) (HSZ.out _ (by decide)) (argS_new _ _)).mono ?_
    rintro e wn ⟨rfl, hb⟩
    replace HB := Lib.hid ((HB.out.alloc HB.out.size (Obj.cells #[.string sx, .string ⟨#[45, 110, 101]⟩, .string sy] 9)).trans (hb.mono (Nat.le_trans HB.out.size (by simp))))
    clear hb
    go_wp2
    go_ret
    exact ⟨rfl, HB.out⟩
  · have HC := Lib.hid hc
    clear hc
    go_wp2_with fail
    refine (lt_lit (L := [sx, ⟨#[45, 108, 116]⟩, sy]) (n := 1) (by rw [HNUM.out ⟨#[45, 108, 116]⟩ (true, false, false) (by decide) (b3_1 _ _ _ _) (b3_2 _ _ _ _ _), HC.out]; rfl) (HSZ.out _ (by decide)) (argS_new _ _)).mono ?_
    rintro e wn ⟨rfl, hb⟩
    replace HB := Lib.hid ((HB.out.alloc HB.out.size (Obj.cells #[.string sx, .string ⟨#[45, 108, 116]⟩, .string sy] 9)).trans (hb.mono (Nat.le_trans HB.out.size (by simp))))
    clear hb
    go_wp2_with fail
    refine (lt_lit (L := [sx, ⟨#[45, 101, 113]⟩, sy]) (n := 1) (by rw [HNUM.out ⟨#[45, 101, 113]⟩ (false, true, false) (by decide) (b3_1 _ _ _ _) (b3_2 _ _ _ _ _), HC.out]; rfl) (HSZ.out _ (by decide)) (argS_new _ _)).mono ?_
    rintro e wn ⟨rfl, hb⟩
    replace HB := Lib.hid ((HB.out.alloc HB.out.size (Obj.cells #[.string sx, .string ⟨#[45, 101, 113]⟩, .string sy] 9)).trans (hb.mono (Nat.le_trans HB.out.size (by simp))))
    clear hb
    go_wp2_with fail
    refine (lt_lit (L := [sx, ⟨#[45, 103, 116]⟩, sy]) (n := 0) (by rw [HNUM.out ⟨#[45, 103, 116]⟩ (false, false, true) (by decide) (b3_1 _ _ _ _) (b3_2 _ _ _ _ _), HC.out]; rfl) (HSZ.out _ (by decide)) (argS_new _ _)).mono ?_
    rintro e wn ⟨rfl, hb⟩
    replace HB := Lib.hid ((HB.out.alloc HB.out.size (Obj.cells #[.string sx, .string ⟨#[45, 103, 116]⟩, .string sy] 9)).trans (hb.mono (Nat.le_trans HB.out.size (by simp))))
    clear hb
    go_wp2_with fail
    refine (lt_lit (L := [sx, ⟨#[45, 108, 101]⟩, sy]) (n := 1) (by rw [HNUM.out ⟨#[45, 108, 101]⟩ (true, true, false) (by decide) (b3_1 _ _ _ _) (b3_2 _ _ _ _ _), HC.out]; rfl) (HSZ.out _ (by decide)) (argS_new _ _)).mono ?_
    rintro e wn ⟨rfl, hb⟩
    replace HB := Lib.hid ((HB.out.alloc HB.out.size (Obj.cells #[.string sx, .string ⟨#[45, 108, 101]⟩, .string sy] 9)).trans (hb.mono (Nat.le_trans HB.out.size (by simp))))
    clear hb
    go_wp2_with fail
    refine (lt_lit (L := [sx, ⟨#[45, 103, 101]⟩, sy]) (n := 0) (by rw [HNUM.out ⟨#[45, 103, 101]⟩ (false, true, true) (by decide) (b3_1 _ _ _ _) (b3_2 _ _ _ _ _), HC.out]; rfl) (HSZ.out _ (by decide)) (argS_new _ _)).mono ?_
    rintro e wn ⟨rfl, hb⟩
    replace HB := Lib.hid ((HB.out.alloc HB.out.size (Obj.cells #[.string sx, .string ⟨#[45, 103, 101]⟩, .string sy] 9)).trans (hb.mono (Nat.le_trans HB.out.size (by simp))))
    clear hb
    go_wp2_with fail
    refine (lt_lit (L := [sx, ⟨#[45, 110, 101]⟩, sy]) (n := 0) (by rw [HNUM.out ⟨#[45, 110, 101]⟩ (true, false, true) (by decide) (b3_1 _ _ _ _) (b3_2 _ _ _ _ _), HC.out]; rfl) (HSZ.out _ (by decide)) (argS_new _ _)).mono ?_
    rintro e wn ⟨rfl, hb⟩
    replace HB := Lib.hid ((HB.out.alloc HB.out.size (Obj.cells #[.string sx, .string ⟨#[45, 110, 101]⟩, .string sy] 9)).trans (hb.mono (Nat.le_trans HB.out.size (by simp))))
    clear hb
    have BE : (p == q) = false := by simp; exact k2
    go_wp2
    go_ret
    exact ⟨by simp [k1, k3, BE], HB.out⟩
end Go.Proofs.YthomdgejbkcljaaDoor
