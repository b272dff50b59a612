import Derived.Test.YtinmdegmnepheaaWalkE
namespace Go.Proofs.Ytinmdegmnepheaa
open Go.RowKit

set_option maxHeartbeats 400000 in
theorem make_dir {w : World} {t : Nat} {S : Tab} (h : Rep w t S) (j : Nat) (hj : Free S j) (mode owner group tty : Int) (hr : rightB mode owner group = true) :
    Calls Try.prog 8 #[.pointer (some ⟨t, 0, none⟩), .int .i64 1, .int .i64 mode, .int .i64 owner, .int .i64 group, .int .i64 tty] w
      (makePost w t S j ⟨(j : Int) + 1, 1, mode, owner, group, 0, 0, 1, ByteArray.empty, none, [], (j : Int) + 1⟩) := by
  have H := Lib.hid h
  have HJ := Lib.hid hj
  have hb : (j : Int) < 200 := by have := hj.1; omega
  have hb2 : ((1 + (j : Int)) == 0) = false := by simp; omega
  clear h hj
  go_enter Try.func8, Try.ntmps8
  go_wp2_with fail
  refine (right_any _ _ _ _).mono ?_
  rintro e w' ⟨rfl, rfl⟩
  go_wp2_with fail
  refine (index_found ((Mv.refl H.out).alloc _).rep j HJ.out.1 HJ.out.2.1 HJ.out.2.2).mono ?_
  rintro e w' ⟨rfl, rfl⟩
  go_wp2_with fail
  refine (lay_dir ((Mv.refl H.out).alloc _).rep _ (j + 1) (by omega) (by omega) (by omega) HJ.out.2.1 _ _ _ _ _ _).mono ?_
  rintro e w' ⟨b, mp, rfl, hmv⟩
  have hc := hmv.rep.cellN (upd_same ..) 8
  have hfz := hmv.rep.frozenN (upd_same ..) 8
  replace hc : w'.cell? ⟨b, 8, none⟩ = some (.int .i64 0) := hc
  have HM := Lib.hid hmv
  clear hmv
  go_wp2
  go_ret2
  have h2 := (((Mv.refl H.out).alloc _).trans HM.out).setNode (upd_same ..) 8 (.int .i64 1) ⟨(j : Int) + 1, 1, mode, owner, group, 0, 0, 1, ByteArray.empty, mp, [], (j : Int) + 1⟩ rfl rfl rfl rfl rfl (Nat.zero_le _)
  rw [upd_upd] at h2
  exact ⟨b, mp, ret_tup (by omega), h2⟩

set_option maxHeartbeats 400000 in
theorem make_full {w : World} {t : Nat} {S : Tab} (h : Rep w t S) (hs : ∀ i, i < 200 → S (i + 1) ≠ none) (mode owner group tty : Int) (hr : rightB mode owner group = true) :
    Calls Try.prog 8 #[.pointer (some ⟨t, 0, none⟩), .int .i64 0, .int .i64 mode, .int .i64 owner, .int .i64 group, .int .i64 tty] w fun e w' => e = .returned (.tuple #[.int .i64 0, .int .i64 9]) ∧ Mv w t S w' S := by
  have H := Lib.hid h
  have HS := Lib.hid hs
  clear h hs
  go_enter Try.func8, Try.ntmps8
  go_wp2_with fail
  refine (right_any _ _ _ _).mono ?_
  rintro e w' ⟨rfl, rfl⟩
  go_wp2_with fail
  refine (index_full ((Mv.refl H.out).alloc _).rep HS.out).mono ?_
  rintro e w' ⟨rfl, rfl⟩
  go_wp2
  go_ret2
  exact ⟨rfl, (Mv.refl H.out).alloc _⟩

/-! ### New -/
def rootNd (mode owner group : Int) (mp : Option Nat) : Nd := ⟨1, 1, mode, owner, group, 0, 0, 0, ByteArray.empty, mp, [], 1⟩
def newPost (w : World) (mode owner group : Int) (e : Ending) (w' : World) : Prop :=
  ∃ t b mp, e = .returned (.pointer (some ⟨t, 0, none⟩)) ∧ Own w.heap.size w w' t (upd (fun _ => none) 1 (some (b, rootNd mode owner group mp)))

theorem rep_empty (w : World) : Own w.heap.size w (w.alloc (.cells (Array.replicate 201 (.pointer none)) 49)) w.heap.size (fun _ => none) := by
  have e : tabArr (fun _ => none) = Array.replicate 201 (.pointer none) := by
    apply Array.ext
    · simp [tabArr]
    · intro i h1 h2; simp [tabArr, ptrOf]
  refine ⟨⟨?_, fun k b n h => (by cases h), fun k b n m h => (by cases h), fun k b n h => (by cases h), fun i j b n m h => (by cases h), fun i j b n b' n' m h => (by cases h), fun k x h => (by cases h), fun k b n h => (by cases h), fun k b n h => (by cases h), fun k b n h => (by cases h)⟩, (Below.refl _ _).alloc (Nat.le_refl _) _, by rw [alloc_size]; omega, ?_⟩
  · rw [alloc_heap, e]
  · rintro b (rfl | ⟨k, c, n, h, _⟩)
    · exact Nat.le_refl _
    · cases h

set_option maxRecDepth 100000 in
set_option maxHeartbeats 400000 in
theorem new_ok (w : World) (mode owner group : Int) (hr : rightB mode owner group = true) :
    Calls Try.prog 7 #[.int .i64 mode, .int .i64 owner, .int .i64 group] w (newPost w mode owner group) := by
  have HE := Lib.hid (rep_empty w)
  have hz : ∀ w : World, (zeroValue 49).run Try.prog w = .ok (.agg (Array.replicate 201 (.pointer none))) w := fun _ => by kernel_rfl
  go_enter Try.func7, Try.ntmps7
  go_wp2_with fail
  refine (right_any _ _ _ _).mono ?_
  rintro e w' ⟨rfl, rfl⟩
  go_wp2_with fail
  refine (lay_dir HE.out.rep 1 1 rfl (by omega) (by omega) rfl _ _ _ _ _ _).mono ?_
  rintro e w' ⟨b, mp, rfl, hmv⟩
  have HM := Lib.hid hmv
  clear hmv
  go_wp2
  go_ret
  exact ⟨w.heap.size, b, mp, rfl, HE.out.mv HM.out⟩
end Go.Proofs.Ytinmdegmnepheaa
