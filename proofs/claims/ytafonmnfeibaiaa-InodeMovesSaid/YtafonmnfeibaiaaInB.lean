import Derived.Test.YtafonmnfeibaiaaInA
namespace Go.Proofs.Ytafonmnfeibaiaa
open Go.RowKit

def layPost (w : World) (t : Nat) (S : Tab) (k : Nat) (n : Nd) (e : Ending) (w' : World) : Prop :=
  ∃ b mp, e = .returned (.pointer (some ⟨b, 0, none⟩)) ∧ Mv w t S w' (upd S k (some (b, { n with mp := mp })))

set_option maxHeartbeats 400000 in
theorem lay_file {w : World} {t : Nat} {S : Tab} (h : Rep w t S) (ki : Int) (k : Nat) (hki : ki = k) (hk1 : 1 ≤ k) (hk2 : k ≤ 200) (hk : S k = none) (ino kind mode owner group links tty : Int) (hkind : kind ≠ 1) :
    Calls Try.prog 33 #[.pointer (some ⟨t, 0, none⟩), .int .i64 ki, .agg #[.int .i64 ino, .int .i64 kind, .int .i64 mode, .int .i64 owner, .int .i64 group, .int .i64 links, .int .i64 0, .int .i64 tty]] w
      (layPost w t S k ⟨k, kind, mode, owner, group, links, tty, 0, ByteArray.empty, none, [], 0⟩) := by
  subst hki
  have hc := h.cellT k (by omega)
  rw [hk] at hc
  simp only [ptrOf, Option.map_none] at hc
  have hf := h.frozenT k
  have ht := h.ltT
  have hkk : (kind == 1) = false := by simpa using hkind
  have hb1 : (1 : Int) ≤ k := by omega
  have hb2 : (k : Int) ≤ 200 := by omega
  have HK := Lib.hid hk
  have H := Lib.hid h
  have HD := Lib.hid hkind
  clear h hk hkind
  go_enter Try.func33, Try.ntmps33
  go_wp2
  go_ret
  refine ⟨w.heap.size + 1, none, rfl, ?_⟩
  rw [setCell_alloc _ _ _ _ _ ht, setCell_alloc _ _ _ _ _ (by rw [alloc_size]; omega)]
  refine (((Mv.refl H.out).alloc _).alloc _).setSome k hk1 hk2 HK.out (w.heap.size + 1) _ ?_ (fun m hm => by cases hm) (fun _ => rfl) (fun hf => ?_) rfl (by simpa using HD.out) ⟨Nat.zero_le _, Nat.zero_le _⟩ (by omega)
  · have := alloc_heap (w.alloc (Obj.cells #[Value.int IntKind.i64 ↑k, Value.int IntKind.i64 kind, Value.int IntKind.i64 mode, Value.int IntKind.i64 owner, Value.int IntKind.i64 group, Value.int IntKind.i64 links, Value.int IntKind.i64 0, Value.int IntKind.i64 tty] 35)) (Obj.cells (Nd.cells ⟨k, kind, mode, owner, group, links, tty, 0, ByteArray.empty, none, [], 0⟩) 86)
    rw [alloc_size] at this
    exact this
  · have := H.out.foot_lt hf; omega

set_option maxHeartbeats 400000 in
theorem lay_dir {w : World} {t : Nat} {S : Tab} (h : Rep w t S) (ki : Int) (k : Nat) (hki : ki = k) (hk1 : 1 ≤ k) (hk2 : k ≤ 200) (hk : S k = none) (ino mode owner group links tty : Int) :
    Calls Try.prog 33 #[.pointer (some ⟨t, 0, none⟩), .int .i64 ki, .agg #[.int .i64 ino, .int .i64 1, .int .i64 mode, .int .i64 owner, .int .i64 group, .int .i64 links, .int .i64 0, .int .i64 tty]] w
      (layPost w t S k ⟨k, 1, mode, owner, group, links, tty, 0, ByteArray.empty, none, [], k⟩) := by
  subst hki
  have hc := h.cellT k (by omega)
  rw [hk] at hc
  simp only [ptrOf, Option.map_none] at hc
  have hf := h.frozenT k
  have ht := h.ltT
  have ht1 : t < w.heap.size + 1 := by omega
  have ht2 : t < w.heap.size + 1 + 1 := by omega
  have hb1 : (1 : Int) ≤ k := by omega
  have hb2 : (k : Int) ≤ 200 := by omega
  have HK := Lib.hid hk
  have H := Lib.hid h
  clear h hk
  have hmm := @run_makeMap Try.prog
  go_enter Try.func33, Try.ntmps33
  go_wp2
  go_ret
  refine ⟨w.heap.size + 1, some (w.heap.size + 1 + 1), rfl, ?_⟩
  rw [setCell_alloc _ _ _ _ _ ht, setCell_alloc _ _ _ _ _ (by rw [alloc_size]; omega), setCell_alloc _ _ _ _ _ (by rw [alloc_size, alloc_size]; omega)]
  generalize hA : Obj.cells #[Value.int IntKind.i64 ↑k, Value.int IntKind.i64 1, Value.int IntKind.i64 mode, Value.int IntKind.i64 owner, Value.int IntKind.i64 group, Value.int IntKind.i64 links, Value.int IntKind.i64 0, Value.int IntKind.i64 tty] 35 = A
  have hm0 := alloc_heap ((w.alloc A).alloc (Obj.cells (Nd.cells ⟨k, 1, mode, owner, group, links, tty, 0, ByteArray.empty, some (w.heap.size + 1 + 1), [], k⟩) 86)) (.map #[] 0)
  have hn0 := alloc_heap (w.alloc A) (Obj.cells (Nd.cells ⟨k, 1, mode, owner, group, links, tty, 0, ByteArray.empty, some (w.heap.size + 1 + 1), [], k⟩) 86)
  rw [alloc_size, alloc_size] at hm0
  rw [alloc_size] at hn0
  refine ((((Mv.refl H.out).alloc _).alloc _).alloc _).setSome k hk1 hk2 HK.out (w.heap.size + 1) _ ?_ (fun m hm => ?_) (fun e => by cases e) (fun hf => ?_) rfl rfl ⟨Nat.zero_le _, Nat.zero_le _⟩ (by omega)
  · rw [alloc_heap_old _ _ (by rw [alloc_size, alloc_size]; omega)]; exact hn0
  · obtain rfl : w.heap.size + 1 + 1 = m := by simpa using hm
    exact ⟨⟨#[], 0, hm0, rfl, List.nodup_nil, fun e he => by simp at he, List.nodup_nil⟩, fun hf => by have := H.out.foot_lt hf; omega, by omega⟩
  · have := H.out.foot_lt hf; omega

theorem upd_upd (S : Tab) (k : Nat) (x y) : upd (upd S k x) k y = upd S k y := by
  funext j; by_cases e : j = k <;> simp [upd, e]
theorem ret_tup {a b : Int} {v : Value} (h : a = b) : Ending.returned (.tuple #[.int .i64 a, v]) = .returned (.tuple #[.int .i64 b, v]) := by rw [h]
/-- Inode j + 1 is the first that is free. -/
def Free (S : Tab) (j : Nat) : Prop := j < 200 ∧ S (j + 1) = none ∧ ∀ i, i < j → S (i + 1) ≠ none
def makePost (w : World) (t : Nat) (S : Tab) (j : Nat) (n : Nd) (e : Ending) (w' : World) : Prop :=
  ∃ b mp, e = .returned (.tuple #[.int .i64 (j + 1), .int .i64 0]) ∧ Mv w t S w' (upd S (j + 1) (some (b, { n with mp := mp })))

set_option maxHeartbeats 400000 in
theorem make_file {w : World} {t : Nat} {S : Tab} (h : Rep w t S) (j : Nat) (hj : Free S j) (mode owner group tty : Int) (hr : rightB mode owner group = true) :
    Calls Try.prog 21 #[.pointer (some ⟨t, 0, none⟩), .int .i64 0, .int .i64 mode, .int .i64 owner, .int .i64 group, .int .i64 tty] w
      (makePost w t S j ⟨(j : Int) + 1, 0, mode, owner, group, 0, 0, 1, ByteArray.empty, none, [], 0⟩) := by
  have H := Lib.hid h
  have HJ := Lib.hid hj
  have hb : (j : Int) < 200 := by have := hj.1; omega
  have hb2 : ((1 + (j : Int)) == 0) = false := by simp; omega
  clear h hj
  go_enter Try.func21, Try.ntmps21
  go_wp2_with fail
  refine (right_any _ _ _ _).mono ?_
  rintro e w' ⟨rfl, rfl⟩
  go_wp2_with fail
  refine (index_found ((Mv.refl H.out).alloc _).rep j HJ.out.1 HJ.out.2.1 HJ.out.2.2).mono ?_
  rintro e w' ⟨rfl, rfl⟩
  go_wp2_with fail
  refine (lay_file ((Mv.refl H.out).alloc _).rep _ (j + 1) (by omega) (by omega) (by omega) HJ.out.2.1 _ _ _ _ _ _ _ (by decide)).mono ?_
  rintro e w' ⟨b, mp, rfl, hmv⟩
  have hc := hmv.rep.cellN (upd_same ..) 8
  have hfz := hmv.rep.frozenN (upd_same ..) 8
  replace hc : w'.cell? ⟨b, 8, none⟩ = some (.int .i64 0) := hc
  have HM := Lib.hid hmv
  clear hmv
  go_wp2
  go_ret2
  have h2 := (((Mv.refl H.out).alloc _).trans HM.out).setNode (upd_same ..) 8 (.int .i64 1) ⟨(j : Int) + 1, 0, mode, owner, group, 0, 0, 1, ByteArray.empty, mp, [], 0⟩ rfl rfl rfl rfl rfl (Nat.zero_le _)
  rw [upd_upd] at h2
  exact ⟨b, mp, ret_tup (by omega), h2⟩
end Go.Proofs.Ytafonmnfeibaiaa
