import Derived.Test.YtinmdegmnepheaaWalkI
namespace Go.Proofs.Ytinmdegmnepheaa
open Go.RowKit

set_option maxHeartbeats 400000 in
theorem enter_many {w : World} {t bd bn : Nat} {S : Tab} {nd nn : Nd} (h : Rep w t S) (d i : Int) (hd : S d.toNat = some (bd, nd)) (hi : S i.toNat = some (bn, nn)) (hkd : nd.kind = 1) (hkn : nn.kind = 1) (s : ByteArray)
    (hs : nameB s = true) (hl : look nd.names s = none) (hi1 : i ≠ 1) (hlk : 0 < nn.links) :
    Calls Try.prog 14 #[.pointer (some ⟨t, 0, none⟩), .int .i64 d, .string s, .int .i64 i] w fun e w' => e = .returned (.int .i64 12) ∧ w = w' := by
  have c1 : w.cell? ⟨bd, 1, none⟩ = some (.int .i64 1) := by rw [h.c1 hd, hkd]
  have d1 : w.cell? ⟨bn, 1, none⟩ = some (.int .i64 1) := by rw [h.c1 hi, hkn]
  have d5 := h.c5 hi
  have hib : (i == 1) = false := by simpa using hi1
  have H := Lib.hid h
  have HD := Lib.hid hd
  have HI := Lib.hid hi
  have HL := Lib.hid hl
  have HK := Lib.hid hkd
  clear h hd hi hl hkd hkn hi1
  go_enter Try.func14, Try.ntmps14
  go_wp2_with fail
  refine (pair_ok H.out _ _ HD.out HI.out).mono ?_
  rintro e w' ⟨rfl, rfl⟩
  go_wp2_with fail
  refine (name_any _ _).mono ?_
  rintro e w' ⟨rfl, rfl⟩
  go_wp2_with fail
  refine (entry_none H.out HD.out HK.out _ HL.out).mono ?_
  rintro e w' ⟨rfl, rfl⟩
  go_wp2
  go_ret
  exact ⟨rfl, rfl⟩

theorem name_a : nameB ⟨#[97]⟩ = true := by decide +kernel
theorem name_b : nameB ⟨#[98]⟩ = true := by decide +kernel

set_option maxHeartbeats 800000 in
theorem shown_any (w : World) : Calls Try.prog 6 #[] w fun e w' => e = .returned (.bool true) ∧ Below w.heap.size w w' := by
  go_enter Try.func6, Try.ntmps6
  go_wp2_with fail
  refine (new_ok _ _ _ _ (by decide +kernel)).mono ?_
  rintro e w1 ⟨t, b, mp, rfl, hown⟩
  have H1 := Lib.hid hown
  clear hown
  go_wp2_with fail
  refine (make_dir H1.out.rep 1 ⟨by omega, rfl, fun i hi => by obtain rfl : i = 0 := by omega
                                                               simp [upd]⟩ _ _ _ _ (by decide +kernel)).mono ?_
  rintro e w2 ⟨b2, mp2, rfl, hmv⟩
  have H2 := Lib.hid (H1.out.mv hmv)
  clear hmv
  go_wp2_with fail
  refine (enter_dir H2.out.rep 1 2 rfl rfl rfl rfl ⟨#[97]⟩ name_a rfl (by decide) rfl (show 0 < 40 from by decide) rfl (by decide)).mono ?_
  rintro e w3 ⟨rfl, hmv⟩
  have H3 := Lib.hid (H2.out.mv hmv)
  clear hmv
  go_wp2_with fail
  refine (look_up H3.out.rep 2 rfl rfl).mono ?_
  rintro e w3 ⟨he, rfl⟩
  replace he : e = .returned (.tuple #[.int .i64 1, .bool true]) := he
  subst he
  go_wp2_with fail
  refine (enter_many H3.out.rep 2 2 rfl rfl rfl rfl ⟨#[98]⟩ name_b rfl (by decide) (show (0 : Int) < 1 from by decide)).mono ?_
  rintro e w3 ⟨rfl, rfl⟩
  go_wp2_with fail
  refine (drop_keep H3.out.rep 2 rfl (show (0 : Int) < 1 ∧ (1 : Int) ≤ 1000000 from by decide) (.inl (show (0 : Int) < 1 from by decide))).mono ?_
  rintro e w4 ⟨rfl, hmv⟩
  have H4 := Lib.hid (H3.out.mv hmv)
  clear hmv
  go_wp2_with fail
  refine (stat_some H4.out.rep 2 rfl).mono ?_
  rintro e w5 ⟨he, hb⟩
  replace he : e = .returned (.tuple #[.agg #[.int .i64 2, .int .i64 1, .int .i64 448, .int .i64 5, .int .i64 6, .int .i64 1, .int .i64 0, .int .i64 0], .bool true]) := he
  subst he
  have H5 := Lib.hid (H4.out.mv ((Mv.refl H4.out.rep).below hb))
  clear hb
  go_wp2_with fail
  have H6 := Lib.hid (H5.out.mv ((Mv.refl H5.out.rep).alloc (.cells #[.int .i64 2, .int .i64 1, .int .i64 448, .int .i64 5, .int .i64 6, .int .i64 1, .int .i64 0, .int .i64 0] 30)))
  refine (remove_free H6.out.rep 1 2 rfl rfl rfl ⟨#[97]⟩ rfl (by decide) rfl (show (0 : Int) ≤ 1 from by decide) (show (1 : Int) ≤ 1 from by decide) (show (0 : Int) ≤ 0 from by decide) (show (2 : Int) ≠ 1 from by decide)).mono ?_
  rintro e w7 ⟨rfl, hmv⟩
  have H7 := Lib.hid (H6.out.mv hmv)
  clear hmv
  go_wp2_with fail
  refine (stat_none H7.out.rep 2 rfl).mono ?_
  rintro e w8 ⟨he, hb⟩
  replace he : e = .returned (.tuple #[.agg #[.int .i64 0, .int .i64 0, .int .i64 0, .int .i64 0, .int .i64 0, .int .i64 0, .int .i64 0, .int .i64 0], .bool false]) := he
  subst he
  have H8 := Lib.hid (H7.out.mv ((Mv.refl H7.out.rep).below hb))
  clear hb
  go_wp2
  go_ret
  exact ⟨rfl, (H8.out.mv ((Mv.refl H8.out.rep).alloc _)).below⟩
end Go.Proofs.Ytinmdegmnepheaa
