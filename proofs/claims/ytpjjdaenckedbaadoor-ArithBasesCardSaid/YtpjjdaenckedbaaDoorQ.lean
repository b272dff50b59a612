/- Expressions: what is given up with is caught. -/
import Derived.Test.YtpjjdaenckedbaaDoorM
import Derived.Test.YtpjjdaenckedbaaDoorI
import Derived.Defers
import Derived.Recover
import Derived.Laws.Pointers
namespace Go.Proofs.YtpjjdaenckedbaaDoor
open Go.RowKit

/-- Three variables of the call's own. -/
structure R3 (W : World) (n : Nat) (a : Int) (v : Value) (c : Int) : Prop where
  h0 : W.heap[n]? = some (.cells #[.int .i64 a] 2 (0, 0))
  h1 : W.heap[n + 1]? = some (.cells #[v] 26 (0, 0))
  h2 : W.heap[n + 1 + 1]? = some (.cells #[.int .i64 c] 27 (0, 0))
theorem R3.new (w : World) : R3 (((w.alloc (.cells #[.int .i64 0] 2)).alloc (.cells #[.slice none 0 0] 26)).alloc (.cells #[.int .i64 0] 27)) w.heap.size 0 (.slice none 0 0) 0 where
  h0 := by
    rw [Below.heap_alloc _ _ _ (by simp; omega), Below.heap_alloc _ _ _ (by simp)]; exact at_new _ _
  h1 := by
    rw [Below.heap_alloc _ _ _ (by simp)]
    have := at_new (w.alloc (.cells #[.int .i64 0] 2)) (.cells #[.slice none 0 0] 26)
    rw [World.size_alloc] at this; exact this
  h2 := by
    have := at_new ((w.alloc (.cells #[.int .i64 0] 2)).alloc (.cells #[.slice none 0 0] 26)) (.cells #[.int .i64 0] 27)
    rw [World.size_alloc, World.size_alloc] at this; exact this
theorem R3.lt {W : World} {n : Nat} {a c : Int} {v : Value} (h : R3 W n a v c) : n + 1 + 1 < W.heap.size := (Array.getElem?_eq_some_iff.1 h.h2).1
theorem R3.still {W w' : World} {n B : Nat} {a c : Int} {v : Value} (h : R3 W n a v c) (hb : Below B W w') (hB : n + 1 + 1 < B) : R3 w' n a v c where
  h0 := by rw [hb.block n (by omega)]; exact h.h0
  h1 := by rw [hb.block (n + 1) (by omega)]; exact h.h1
  h2 := by rw [hb.block (n + 1 + 1) hB]; exact h.h2
theorem R3.put {W : World} {n : Nat} {a c : Int} {v : Value} (h : R3 W n a v c) (a' : Int) (v' : Value) (c' : Int) :
    R3 (((W.setCell ⟨n, 0, none⟩ (.int .i64 a')).setCell ⟨n + 1, 0, none⟩ v').setCell ⟨n + 1 + 1, 0, none⟩ (.int .i64 c')) n a' v' c' where
  h0 := heap_set_other (heap_set_other (set_same h.h0 _) _ (by omega)) _ (by omega)
  h1 := heap_set_other (set_same (heap_set_other h.h1 _ (by omega)) _) _ (by omega)
  h2 := set_same (heap_set_other (heap_set_other h.h2 _ (by omega)) _ (by omega)) _
theorem R3.below {w W : World} {n N : Nat} (h : Below N w W) (hn : N ≤ n) (u v x : Value) : Below N w (((W.setCell ⟨n, 0, none⟩ u).setCell ⟨n + 1, 0, none⟩ v).setCell ⟨n + 1 + 1, 0, none⟩ x) :=
  ((h.setCell hn _).setCell (Nat.le_succ_of_le hn) _).setCell (Nat.le_succ_of_le (Nat.le_succ_of_le hn)) _
theorem catch_idle (p q r : Addr) (w : World) :
    CallsD Tryd.prog 13 #[.pointer (some p), .pointer (some q), .pointer (some r)] .returning w fun e u' w' => e = .returned (.tuple #[]) ∧ u' = .returning ∧ w' = w := by
  refine callsD_of_wpS Tryd.func13 rfl fun c₀ cs hu => ?_
  apply wpS_seq
  apply wpS_region
  simp [wpOpsS, go_sem, recoverD, hu, Tryd.ntmps13, Exit.thenS]
  refine wpS_of_wp ?_
  change Code.wp _ _ _ { tmps := #[.pointer (some p), .pointer (some q), .pointer (some r), undef, undef, undef, undef, .nilIface, undef, undef, undef, undef, undef, undef, undef, undef, undef], defers := [] } w
  go_wp2
  cases c₀
  simp_all [bodyPostS, results, Tryd.results13]
theorem as_fault (W : World) : (Instr.typeAssert (.iface 41 (.agg #[])) 20 41 true).run Tryd.prog W = .ok (.tuple #[.agg #[], .bool true]) W := by kernel_rfl
theorem as_no (c : Int) (W : World) : (Instr.typeAssert (.iface 27 (.int .i64 c)) 20 41 true).run Tryd.prog W = .ok (.tuple #[.agg #[], .bool false]) W := by kernel_rfl
theorem as_errno (c : Int) (W : World) : (Instr.typeAssert (.iface 27 (.int .i64 c)) 20 27 true).run Tryd.prog W = .ok (.tuple #[.int .i64 c, .bool true]) W := by kernel_rfl
set_option maxRecDepth 100000 in
theorem catch_errno (n : Nat) (c : Int) (older : List PanicEntry) (w : World) {a0 c0 : Int} {v0 : Value} (h : R3 w n a0 v0 c0) :
    CallsD Tryd.prog 13 #[.pointer (some ⟨n, 0, none⟩), .pointer (some ⟨n + 1, 0, none⟩), .pointer (some ⟨n + 1 + 1, 0, none⟩)] (.panicking ({ v := .iface 27 (.int .i64 c), recovered := false } :: older)) w fun e u' w' =>
      e = .returned (.tuple #[]) ∧ u' = .panicking ({ v := .iface 27 (.int .i64 c), recovered := true } :: older) ∧ w' = ((w.setCell ⟨n, 0, none⟩ (.int .i64 0)).setCell ⟨n + 1, 0, none⟩ (.slice none 0 0)).setCell ⟨n + 1 + 1, 0, none⟩ (.int .i64 c) := by
  refine callsD_of_wpS Tryd.func13 rfl fun c₀ cs hu => ?_
  apply wpS_seq
  apply wpS_region
  simp [wpOpsS, go_sem, recoverD, hu, Tryd.ntmps13, Exit.thenS]
  refine wpS_of_wp ?_
  change Code.wp _ _ _ { tmps := #[.pointer (some ⟨n, 0, none⟩), .pointer (some ⟨n + 1, 0, none⟩), .pointer (some ⟨n + 1 + 1, 0, none⟩), undef, undef, undef, undef, .iface 27 (.int .i64 c), undef, undef, undef, undef, undef, undef, undef, undef, undef], defers := [] } w
  have c0' := heap_cell h.h0 0
  have f0 := heap_free h.h0 0
  have c1 : (w.setCell ⟨n, 0, none⟩ (.int .i64 0)).cell? ⟨n + 1, 0, none⟩ = some v0 := heap_cell (heap_set_other h.h1 _ (by omega)) 0
  have f1 : (w.setCell ⟨n, 0, none⟩ (.int .i64 0)).frozen? ⟨n + 1, 0, none⟩ = false := heap_free (heap_set_other h.h1 _ (by omega)) 0
  have c2 : ((w.setCell ⟨n, 0, none⟩ (.int .i64 0)).setCell ⟨n + 1, 0, none⟩ (.slice none 0 0)).cell? ⟨n + 1 + 1, 0, none⟩ = some (.int .i64 c0) := heap_cell (heap_set_other (heap_set_other h.h2 _ (by omega)) _ (by omega)) 0
  have f2 : ((w.setCell ⟨n, 0, none⟩ (.int .i64 0)).setCell ⟨n + 1, 0, none⟩ (.slice none 0 0)).frozen? ⟨n + 1 + 1, 0, none⟩ = false := heap_free (heap_set_other (heap_set_other h.h2 _ (by omega)) _ (by omega)) 0
  have hta := as_no c w
  have htb := as_errno c w
  clear h
  go_wp2
  simp [bodyPostS, results, Tryd.results13]
set_option maxRecDepth 100000 in
theorem catch_fault (n : Nat) (older : List PanicEntry) (w : World) {a0 c0 : Int} {v0 : Value} (h : R3 w n a0 v0 c0) :
    CallsD Tryd.prog 13 #[.pointer (some ⟨n, 0, none⟩), .pointer (some ⟨n + 1, 0, none⟩), .pointer (some ⟨n + 1 + 1, 0, none⟩)] (.panicking ({ v := .iface 41 (.agg #[]), recovered := false } :: older)) w fun e u' w' =>
      e = .returned (.tuple #[]) ∧ u' = .panicking ({ v := .iface 41 (.agg #[]), recovered := true } :: older) ∧ ∃ o, w' = (((w.alloc o).setCell ⟨n, 0, none⟩ (.int .i64 0)).setCell ⟨n + 1, 0, none⟩ (.slice none 0 0)).setCell ⟨n + 1 + 1, 0, none⟩ (.int .i64 17) := by
  refine callsD_of_wpS Tryd.func13 rfl fun c₀ cs hu => ?_
  apply wpS_seq
  apply wpS_region
  simp [wpOpsS, go_sem, recoverD, hu, Tryd.ntmps13, Exit.thenS]
  refine wpS_of_wp ?_
  change Code.wp _ _ _ { tmps := #[.pointer (some ⟨n, 0, none⟩), .pointer (some ⟨n + 1, 0, none⟩), .pointer (some ⟨n + 1 + 1, 0, none⟩), undef, undef, undef, undef, .iface 41 (.agg #[]), undef, undef, undef, undef, undef, undef, undef, undef, undef], defers := [] } w
  have HH : ∀ o, R3 (w.alloc o) n a0 v0 c0 := fun o => h.still ((Below.refl w.heap.size w).alloc (Nat.le_refl _) o) h.lt
  have c0' := fun o => heap_cell (HH o).h0 0
  have f0 := fun o => heap_free (HH o).h0 0
  have c1 : ∀ o, ((w.alloc o).setCell ⟨n, 0, none⟩ (.int .i64 0)).cell? ⟨n + 1, 0, none⟩ = some v0 := fun o => heap_cell (heap_set_other (HH o).h1 _ (by omega)) 0
  have f1 : ∀ o, ((w.alloc o).setCell ⟨n, 0, none⟩ (.int .i64 0)).frozen? ⟨n + 1, 0, none⟩ = false := fun o => heap_free (heap_set_other (HH o).h1 _ (by omega)) 0
  have c2 : ∀ o, (((w.alloc o).setCell ⟨n, 0, none⟩ (.int .i64 0)).setCell ⟨n + 1, 0, none⟩ (.slice none 0 0)).cell? ⟨n + 1 + 1, 0, none⟩ = some (.int .i64 c0) := fun o => heap_cell (heap_set_other (heap_set_other (HH o).h2 _ (by omega)) _ (by omega)) 0
  have f2 : ∀ o, (((w.alloc o).setCell ⟨n, 0, none⟩ (.int .i64 0)).setCell ⟨n + 1, 0, none⟩ (.slice none 0 0)).frozen? ⟨n + 1 + 1, 0, none⟩ = false := fun o => heap_free (heap_set_other (heap_set_other (HH o).h2 _ (by omega)) _ (by omega)) 0
  have hta := as_fault w
  clear h HH
  go_wp2
  simp [bodyPostS, results, Tryd.results13]
  exact ⟨_, rfl⟩
end Go.Proofs.YtpjjdaenckedbaaDoor
