/- PwfileParses. -/
import Derived.Test.YtmfbmjnoepcigaaGreatDoorRo
import Derived.Test.YtmfbmjnoepcigaaGreatDoorRb
import Derived.Test.YtmfbmjnoepcigaaGreatDoorO
import Derived.Test.YtmfbmjnoepcigaaGreatDoorQ
import Derived.Test.YtmfbmjnoepcigaaGreatDoorR
namespace Go.Proofs.YtmfbmjnoepcigaaGreatDoor
open Go.RowKit

theorem parse_eight (t : Bytes) : (parseR t).1.length ≤ 8 := by
  rcases parse_cases t with ⟨_, h⟩ | ⟨n, e, _, _, h⟩ | ⟨L, _, hp, h⟩
  · rw [h]; simp
  · rw [h]; simp
  · rw [h]; exact (parse_is 1 hp).1.len
set_option maxHeartbeats 8000000 in
set_option maxRecDepth 100000 in
theorem parses_law (s : ByteArray) (w : World) (hW : HasW w) :
    Calls Tryz.prog 3 #[.string s] w fun e w' => e = .returned (.bool true) ∧ Below w.heap.size w w' := by
  have HS := Lib.hid (shown_any w hW)
  have HW := Lib.hid hW
  have H8 := Lib.hid (parse_eight s.data.toList)
  have HRP := Lib.hid (fun W => rparse_any s W)
  have HPP := Lib.hid (fun W (h : Below w.heap.size w W) => parse_any s W (hW.below h))
  clear hW
  unfold ParseP at HRP HPP
  generalize parseR s.data.toList = R at *
  obtain ⟨L, n, er⟩ := R
  simp only at HRP HPP H8
  generalize (n : Int) = N at *
  go_enter Tryz.func3, Tryz.ntmps3
  go_wp2_with fail
  refine HS.out.mono ?_
  rintro e w1 ⟨rfl, hb⟩
  have HB1 := Lib.hid hb
  clear hb HS
  go_wp2_with fail
  refine (HRP.out _).mono ?_
  rintro e w2 ⟨v4, rfl, ho, hb⟩
  have HB2 := Lib.hid (HB1.out.trans (hb.mono HB1.out.size))
  have HI2 := Lib.hid (own_inU ho)
  clear hb ho HRP HB1
  go_wp2
  go_loopw [7, 8, 9, 10, 11, 12] (fun v7 v8 v9 v10 v11 v12 wr => ∃ t : Nat, v7 = .int .i64 t ∧ t ≤ 2 ∧ Hid (Below w2.heap.size w2 wr)) (fun v7 v8 v9 v10 v11 v12 _ => 2 - (intOf v7).toNat)
  case atStart => exact ⟨0, rfl, by omega, Lib.hid (Below.refl _ _)⟩
  case round =>
    obtain ⟨t, rfl, ht, HH⟩ := hrel
    by_cases ht2 : t < 2
    · have ht3 : (t : Int) < 2 := by omega
      obtain ⟨B8, hB8⟩ : ∃ B8, wr.heap.size = B8 := ⟨_, rfl⟩
      have HB8 : Hid (w2.heap.size ≤ B8) := Lib.hid (hB8 ▸ HH.out.size)
      have HBr := Lib.hid (HB2.out.trans (HH.out.mono HB2.out.size))
      go_wp2_with fail
      refine (HPP.out _ HBr.out).mono ?_
      rintro e w3 ⟨v8, rfl, ho, hb⟩
      have HB3 := Lib.hid (HH.out.trans (hb.mono HH.out.size))
      rw [hB8] at ho
      have HO3 := Lib.hid ho
      clear hb ho
      go_wp2_with fail
      refine (same_any v8 v4 L L w3 (own_inU HO3.out) (HI2.out.below HB3.out) (by have := H8.out; omega) (by have := H8.out; omega)).mono ?_
      rintro e w4 ⟨rfl, hb⟩
      have HB4 := Lib.hid (HB3.out.trans (hb.mono HB3.out.size))
      have HO4 := Lib.hid (HO3.out.grown hb)
      clear hb HB3 HO3
      rw [decide_eq_true (rfl : L = L)]
      have hne1 : (N != N) = false := by simp
      have hne2 : (er != er) = false := by simp
      obtain ⟨a4, c4, rfl⟩ := HO4.out.form
      have hL8 : (L.length : Int) ≤ 8 := by have := H8.out; omega
      go_wp2
      go_loopw [12] (fun v12 wq => ∃ (k : Nat) (M : List UserS), k ≤ L.length ∧ v12 = .int .i64 k ∧ M.length = L.length ∧ Hid (Below w2.heap.size w2 wq ∧ OwnU wq B8 (.slice a4 M.length c4) M)) (fun v12 _ => L.length - (intOf v12).toNat)
      case atStart => exact ⟨0, L, Nat.zero_le _, rfl, rfl, Lib.hid ⟨HB4.out, HO4.out⟩⟩
      case round =>
        obtain ⟨k, M, hk, rfl, hM, HQ⟩ := hrel
        by_cases hlt : k < L.length
        · have hlt1 : (k : Int) < L.length := by omega
          obtain ⟨g, rfl, hg, ⟨g0, g1, g2, g3, g4, g5⟩, ⟨z0, z1, z2, z3, z4, z5⟩, hst⟩ := own_user HQ.out.2 (k := k) (by omega)
          have hg2 : w2.heap.size ≤ g := Nat.le_trans HB8.out hg
          have HX : Hid (Below w2.heap.size w2 (sixAt wr g (k * 6) zeroU) ∧ OwnU (sixAt wr g (k * 6) zeroU) B8 (.slice (some ⟨g, 0, none⟩) (M.set k zeroU).length c4) (M.set k zeroU)) := Lib.hid ⟨sixAt_below HQ.out.1 hg2 _ _, by have := hst zeroU; rw [List.length_set]; exact this⟩
          have HNN := Lib.hid hM
          generalize M[k]'(by omega) = fk at *
          clear hst hM
          go_wp2
          go_roundw
          case rel => exact ⟨k + 1, M.set k zeroU, by omega, by go_num, by rw [List.length_set]; exact HNN.out, HX⟩
          case measure => simp [intOf]; omega
        · have hlt1 : ¬ (k : Int) < L.length := by omega
          go_wp2
          go_roundw
          case rel => exact ⟨t + 1, by go_num, by omega, Lib.hid HQ.out.1⟩
          case measure => simp [intOf]; omega
    · have ht3 : ¬ (t : Int) < 2 := by omega
      have HBe := Lib.hid (HB2.out.trans (HH.out.mono HB2.out.size))
      go_wp2
      go_ret
      exact ⟨rfl, HBe.out⟩
end Go.Proofs.YtmfbmjnoepcigaaGreatDoor
