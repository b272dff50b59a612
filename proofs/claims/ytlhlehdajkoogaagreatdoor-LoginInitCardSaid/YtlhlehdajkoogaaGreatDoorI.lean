/- digit; the beginning of init. -/
import Derived.Test.YtlhlehdajkoogaaGreatDoorH
import Derived.Test.YtlhlehdajkoogaaGreatDoorC
namespace Go.Proofs.YtlhlehdajkoogaaGreatDoor
open Go.RowKit

theorem bytes_below (w : World) (t : TypeId) (s : ByteArray) : Below w.heap.size w (Lib.bytesWorld w t s) := by
  exact ⟨rfl, rfl, rfl, by rw [Lib.bytesWorld_size]; omega, fun j hj => Lib.bytesWorld_at_old w t s j hj⟩
set_option maxRecDepth 100000 in
set_option maxHeartbeats 4000000 in
theorem digit_any {w : World} {v : Value} {s : ByteArray} (h : Words w v s) (hs : s.size = 1) (u : Nat) (hu : u < 256) (hp : Lib.parseUintB 8 s.data.toList = .ok u) :
    Calls Tryz.prog 70 #[v] w fun e w' => e = .returned (.int .i64 (u : Int)) ∧ Below w.heap.size w w' := by
  obtain ⟨b, cap, cur, rfl, h1, h2⟩ := h
  have x0 : w.cell? ⟨b, 0, none⟩ = some (.string s) := (cell_of h1 0).trans h2
  have HC := Lib.hid (Tryz.strconv_ParseUint_10_at8_ok s (by omega) u hp w)
  have hsz : (s.size : Int) = 1 := by omega
  have hw64 : wrap64 (u : Int) = u := by unfold wrap64; omega
  clear h1 h2 hp
  go_enter Tryz.func70, Tryz.ntmps70
  go_wp2_with fail
  refine HC.out.mono ?_
  rintro e w1 ⟨rfl, hw⟩
  have HB : Hid (Below w.heap.size w w1) := Lib.hid (by rcases hw with rfl | rfl; exact Below.refl _ _; exact bytes_below _ _ _)
  clear hw HC x0
  go_wp2
  go_ret
  exact ⟨rfl, HB.out⟩
theorem made_list (u : Nat) : (madeCells (Value.int .i64 0).cells (u * 1)).toList = (List.replicate u 0).map (Value.int .i64) := by
  refine List.ext_getElem (by simp [size_madeCells]) fun i h1 h2 => ?_
  simp [madeCells, Value.cells, Nat.mod_one]
theorem made_own {w : World} {B u : Nat} {b : Nat} (h : w.ownsRow B 3 1 (.slice (some ⟨b, 0, none⟩) u u) u (madeCells (Value.int .i64 0).cells (u * 1)).toList) {F : Nat → Prop} (hF : ∀ k, B ≤ k → F k) : Own F w (.slice (some ⟨b, 0, none⟩) u u) (List.replicate u 0) := by
  rw [made_list] at h
  exact own_row h (by simp) (by simp) hF
theorem info_int : (Tryz.prog.info? 3).map (fun i => (i.zero, i.size, i.bytes)) = some (some (.int .i64 0), 1, 8) := by kernel_rfl
set_option maxRecDepth 100000 in
set_option maxHeartbeats 4000000 in
theorem initial_any {F : Nat → Prop} {w : World} (hF : ∀ k, w.heap.size ≤ k → F k) {p : Nat} {m : Ma} (h : M w p m) {v : Value} {s : ByteArray} (hw : Words w v s) (hs : s.size = 1) (u : Nat) (hu : u < 100) (hp : Lib.parseUintB 8 s.data.toList = .ok u) :
    Calls Tryz.prog 44 #[.pointer (some ⟨p, 0, none⟩), v] w (Kq F p m (List.replicate u 0) (LGI.keepsM (List.replicate u 0) 0) w) := by
  have HD := Lib.hid (digit_any hw hs u (by omega) hp)
  have HH := Lib.hid h
  obtain ⟨i0, hi, hz0, hz1, hz2⟩ := info_parts info_int
  clear h hw hp hs
  go_enter Tryz.func44, Tryz.ntmps44
  go_wp2_with fail
  refine HD.out.mono ?_
  rintro e w1 ⟨rfl, hb⟩
  have HB := Lib.hid hb
  clear hb
  go_wp2_with (refine wpList_make_full _ rfl _ _ 58 rfl w1.heap.size 3 i0 (.int .i64 0) 1 Tryz.underlying58 hi hz0 hz1 .i64 .i64 (u : Int) (u : Int) u rfl rfl rfl rfl (by rw [hz2]; omega) (by unfold maxLen; omega) (Nat.le_refl _) ?_; intro w2 hown2 hgrow2; have hb2 := HB.out.trans ((below_grown (Below.refl _ _) (Nat.le_refl _) hgrow2 (fun k hk => by cases hk)).mono HB.out.size); have hM2 := HH.out.below hb2; have k1 := hM2.cell 1; rw [show m.cells[1]? = some m.gettys from rfl] at k1; have f1 := frozen_of hM2 1; have HO := Lib.hid (made_own hown2 (fun k hk => hF k (Nat.le_trans HB.out.size hk))); have HB2 := Lib.hid hb2; have HM2 := Lib.hid hM2; clear hown2 hgrow2 hb2 hM2)
  obtain ⟨v1, hv1⟩ : ∃ v1, Value.slice (some ⟨w1.heap.size, 0, none⟩) u u = v1 := ⟨_, rfl⟩
  rw [hv1] at HO ⊢
  have hM3 := HM2.out.set 1 v1 { m with gettys := v1 } rfl
  have hmo3 := ((Mo.refl p w).below HB2.out).set (i := 1) v1
  have hO3 : Own F (w2.setCell ⟨p, 1, none⟩ v1) v1 (List.replicate u 0) := HO.out.mo HM2.out ((Mo.refl p w2).set _)
  refine (keeps_any (g := List.replicate u 0) (by rw [List.length_replicate]; exact hu) _ 0 (fun k hk => hF k (Nat.le_trans hmo3.size hk)) rfl (Nat.zero_le _) hM3 hO3).mono ?_
  rintro e w3 ⟨rfl, h1, h2⟩
  have H1 := Lib.hid h1
  have H2 := Lib.hid (hmo3.trans h2)
  have H3 := Lib.hid (hO3.mo hM3 h2)
  clear h1 h2 hM3 hmo3 hO3
  go_wp2
  exact bodyPost_end (results_none rfl _ _ _) rfl ⟨rfl, v1, H1.out, H3.out, H2.out⟩
end Go.Proofs.YtlhlehdajkoogaaGreatDoor
