import Derived.Test.YtinmdegmnepheaaWalkC
import Derived.Test.YtinmdegmnepheaaMap
import Derived.Test.YtinmdegmnepheaaName
import Derived.RegionTactic
import Derived.BigRegion
import Derived.ChangeAlike
namespace Go.Proofs.Ytinmdegmnepheaa
open Go.RowKit

section
variable {w : World} {t b k : Nat} {S : Tab} {n : Nd} (h : Rep w t S) (hk : S k = some (b, n))
include h hk
theorem Rep.c0 : w.cell? ⟨b, 0, none⟩ = some (.int .i64 n.ino) := h.cellN hk 0
theorem Rep.c1 : w.cell? ⟨b, 1, none⟩ = some (.int .i64 n.kind) := h.cellN hk 1
theorem Rep.c5 : w.cell? ⟨b, 5, none⟩ = some (.int .i64 n.links) := h.cellN hk 5
theorem Rep.c8 : w.cell? ⟨b, 8, none⟩ = some (.int .i64 n.holds) := h.cellN hk 8
theorem Rep.c9 : w.cell? ⟨b, 9, none⟩ = some (.string n.data) := h.cellN hk 9
theorem Rep.c10 : w.cell? ⟨b, 10, none⟩ = some (.map n.mp) := h.cellN hk 10
theorem Rep.c11 : w.cell? ⟨b, 11, none⟩ = some (.int .i64 n.parent) := h.cellN hk 11
end

set_option maxHeartbeats 400000 in
theorem gone_keep {w : World} {t b k : Nat} {S : Tab} {n : Nd} (h : Rep w t S) (hk : S k = some (b, n)) (hc : 0 < n.links ∨ 0 < n.holds ∨ n.ino = 1) :
    Calls Try.prog 22 #[.pointer (some ⟨t, 0, none⟩), .pointer (some ⟨b, 0, none⟩)] w fun e w' => e = .returned (.tuple #[]) ∧ w = w' := by
  have c0 := h.c0 hk
  have c5 := h.c5 hk
  have c8 := h.c8 hk
  obtain ⟨ino, kind, mode, owner, group, links, tty, holds, data, mp, names, parent⟩ := n
  simp only at c0 c5 c8 hc
  clear h hk
  by_cases h1 : 0 < links
  · clear hc
    go_enter Try.func22, Try.ntmps22
    go_wp2
    exact bodyPost_ret (results_none rfl _ _ _) rfl ⟨rfl, rfl⟩
  · by_cases h2 : 0 < holds
    · clear hc
      go_enter Try.func22, Try.ntmps22
      go_wp2
      exact bodyPost_ret (results_none rfl _ _ _) rfl ⟨rfl, rfl⟩
    · obtain rfl : ino = 1 := by omega
      clear hc
      go_enter Try.func22, Try.ntmps22
      go_wp2
      exact bodyPost_ret (results_none rfl _ _ _) rfl ⟨rfl, rfl⟩

set_option maxHeartbeats 400000 in
theorem gone_free {w : World} {t b k : Nat} {S : Tab} {n : Nd} (h : Rep w t S) (hk : S k = some (b, n)) (hl : n.links ≤ 0) (hh : n.holds ≤ 0) (hi : n.ino ≠ 1) (hn : n.names = []) :
    Calls Try.prog 22 #[.pointer (some ⟨t, 0, none⟩), .pointer (some ⟨b, 0, none⟩)] w fun e w' => e = .returned (.tuple #[]) ∧ Mv w t S w' (upd S k none) := by
  have c0 := h.c0 hk
  have c5 := h.c5 hk
  have c8 := h.c8 hk
  have c10 := h.c10 hk
  have hr := h.rng k _ hk
  have hino := h.ino k b n hk
  obtain ⟨x, hx⟩ : ∃ x, w.cell? ⟨t, k, none⟩ = some x := ⟨_, h.cellT k (by omega)⟩
  have hf := h.frozenT k
  have htb : b ≠ t := h.neT hk
  have hMap := fun m hm => h.map k b n m hk hm
  obtain ⟨ino, kind, mode, owner, group, links, tty, holds, data, mp, names, parent⟩ := n
  simp only at c0 c5 c8 c10 hl hh hi hn hino hMap
  subst hn hino
  have hi' : ((k : Int) == 1) = false := by simpa using hi
  have hb1 : (1 : Int) ≤ k := by omega
  have hb2 : (k : Int) ≤ 200 := by omega
  have hl1 : decide (0 < links) = false := by simp; omega
  have hh1 : decide (0 < holds) = false := by simp; omega
  have HM := (Mv.refl h).setNone k
  have e3 : (w.setCell ⟨t, k, none⟩ (.pointer none)).drew.heap.size = w.heap.size := by simp [World.setCell, World.drew]
  cases mp with
  | none =>
    have hr1 : (Instr.range 53 (.map none)).run Try.prog (w.setCell ⟨t, k, none⟩ (.pointer none)).drew = .ok (.pointer (some ⟨w.heap.size, 0, none⟩)) ((w.setCell ⟨t, k, none⟩ (.pointer none)).alloc (.mapIter none 0 #[] 0)).drew := by
      have e := run_range_nilMap (w.setCell ⟨t, k, none⟩ (.pointer none)).drew 53 9 3 Try.underlying53
      rw [e3] at e; exact e
    have hr2 : ∀ ty, (Instr.next (.pointer (some ⟨w.heap.size, 0, none⟩)) false ty).run Try.prog ((w.setCell ⟨t, k, none⟩ (.pointer none)).alloc (.mapIter none 0 #[] 0)).drew = .ok (.tuple #[.bool false]) ((w.setCell ⟨t, k, none⟩ (.pointer none)).alloc (.mapIter none 0 #[] 0)).drew := by
      intro ty
      have e := run_next_nilMap (P := Try.prog) (w.setCell ⟨t, k, none⟩ (.pointer none)).drew ty 0 0 #[]
      rw [e3] at e; exact e
    have HH := Lib.hid (HM.alloc (.mapIter none 0 #[] 0)).drew
    clear e3 HM hr hi h hk hMap hl hh
    go_enter Try.func22, Try.ntmps22
    go_wp2
    go_region
    go_wp2
    refine wp_loop_rounds 1 ?_
    rw [rounds_succ]
    go_wp2
    go_end0
    exact ⟨rfl, HH.out⟩
  | some m =>
    obtain ⟨es, cl, hm1, hm2⟩ := hMap m rfl
    have hes : es = #[] := by have := hm2.vals; simpa [entVals] using this
    subst hes
    have hmt : m ≠ t := fun e => by subst e; rw [h.tree] at hm1; simp at hm1
    have hm3 : (w.setCell ⟨t, k, none⟩ (.pointer none)).drew.heap[m]? = some (.map #[] cl) := (Below.heap_setCell w ⟨t, k, none⟩ (.pointer none) m hmt).trans hm1
    have hml : m < (w.setCell ⟨t, k, none⟩ (.pointer none)).heap.size := by have := lt_of_heap hm1; simpa [World.setCell] using this
    have hr1 : (Instr.range 53 (.map (some m))).run Try.prog (w.setCell ⟨t, k, none⟩ (.pointer none)).drew = .ok (.pointer (some ⟨w.heap.size, 0, none⟩)) ((w.setCell ⟨t, k, none⟩ (.pointer none)).alloc (.mapIter (some m) cl #[] cl)).drew := by
      have e := run_range_map (w.setCell ⟨t, k, none⟩ (.pointer none)).drew 53 9 3 m #[] cl Try.underlying53 hm3
      rw [e3] at e; exact e
    have hr2 : ∀ ty, (Instr.next (.pointer (some ⟨w.heap.size, 0, none⟩)) false ty).run Try.prog ((w.setCell ⟨t, k, none⟩ (.pointer none)).alloc (.mapIter (some m) cl #[] cl)).drew = .ok (.tuple #[.bool false]) ((w.setCell ⟨t, k, none⟩ (.pointer none)).alloc (.mapIter (some m) cl #[] cl)).drew := by
      intro ty
      have e1 := alloc_heap (w.setCell ⟨t, k, none⟩ (.pointer none)) (.mapIter (some m) cl #[] cl)
      have e2 : ((w.setCell ⟨t, k, none⟩ (.pointer none)).alloc (.mapIter (some m) cl #[] cl)).heap[m]? = some (.map #[] cl) := (alloc_heap_old _ _ hml).trans hm3
      have e4 : (w.setCell ⟨t, k, none⟩ (.pointer none)).heap.size = w.heap.size := e3
      rw [e4] at e1
      exact run_next_empty (P := Try.prog) (w := ((w.setCell ⟨t, k, none⟩ (.pointer none)).alloc (.mapIter (some m) cl #[] cl)).drew) ty e1 e2
    have HH := Lib.hid (HM.alloc (.mapIter (some m) cl #[] cl)).drew
    clear e3 HM hr hi h hk hMap hl hh hm1 hm2 hm3 hml hmt
    go_enter Try.func22, Try.ntmps22
    go_wp2
    go_region
    go_wp2
    refine wp_loop_rounds 1 ?_
    rw [rounds_succ]
    go_wp2
    go_end0
    exact ⟨rfl, HH.out⟩
end Go.Proofs.Ytinmdegmnepheaa
