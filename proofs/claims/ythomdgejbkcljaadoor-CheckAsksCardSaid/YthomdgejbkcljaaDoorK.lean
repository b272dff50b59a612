/- Check: the program's, with its recover. -/
import Derived.Test.YthomdgejbkcljaaDoorJ
import Derived.Defers
import Derived.Recover
import Derived.Laws.Pointers
namespace Go.Proofs.YthomdgejbkcljaaDoor
open Go.RowKit

theorem set_other {w : World} {b c i : Nat} {o : Obj} (h : w.heap[c]? = some o) (v : Value) (hne : c ≠ b) : (w.setCell ⟨b, i, none⟩ v).heap[c]? = some o := by
  rw [Below.heap_setCell _ _ _ _ hne]; exact h
theorem catch_idle (p q r : Addr) (w : World) :
    CallsD Tryd.prog 14 #[.pointer (some p), .pointer (some q), .pointer (some r)] .returning w fun e u' w' => e = .returned (.tuple #[]) ∧ u' = .returning ∧ w' = w := by
  refine callsD_of_wpS Tryd.func14 rfl fun c₀ cs hu => ?_
  apply wpS_seq
  apply wpS_region
  simp [wpOpsS, go_sem, recoverD, hu, Tryd.ntmps14, Exit.thenS]
  refine wpS_of_wp ?_
  change Code.wp _ _ _ { tmps := #[.pointer (some p), .pointer (some q), .pointer (some r), undef, undef, undef, .nilIface, undef, undef, undef, undef, undef, undef], defers := [] } w
  go_wp2
  cases c₀
  simp_all [bodyPostS, results, Tryd.results14]
theorem assert_asked (x : ByteArray) (W : World) : (Instr.typeAssert (.iface 41 (.string x)) 20 41 true).run Tryd.prog W = .ok (.tuple #[.string x, .bool true]) W := by kernel_rfl
set_option maxRecDepth 100000 in
theorem catch_asked (n0 n1 n2 : Nat) (x : ByteArray) (older : List PanicEntry) (w : World) (a0 : Int) (a1 : ByteArray) (a2 : Bool)
    (h0 : w.heap[n0]? = some (.cells #[.int .i64 a0] 3 (0, 0))) (h1 : w.heap[n1]? = some (.cells #[.string a1] 9 (0, 0))) (h2 : w.heap[n2]? = some (.cells #[.bool a2] 4 (0, 0))) (h01 : n1 ≠ n0) (h02 : n2 ≠ n0) (h12 : n2 ≠ n1) :
    CallsD Tryd.prog 14 #[.pointer (some ⟨n0, 0, none⟩), .pointer (some ⟨n1, 0, none⟩), .pointer (some ⟨n2, 0, none⟩)] (.panicking ({ v := .iface 41 (.string x), recovered := false } :: older)) w fun e u' w' =>
      e = .returned (.tuple #[]) ∧ u' = .panicking ({ v := .iface 41 (.string x), recovered := true } :: older) ∧ w' = ((w.setCell ⟨n0, 0, none⟩ (.int .i64 0)).setCell ⟨n1, 0, none⟩ (.string x)).setCell ⟨n2, 0, none⟩ (.bool true) := by
  refine callsD_of_wpS Tryd.func14 rfl fun c₀ cs hu => ?_
  apply wpS_seq
  apply wpS_region
  simp [wpOpsS, go_sem, recoverD, hu, Tryd.ntmps14, Exit.thenS]
  refine wpS_of_wp ?_
  change Code.wp _ _ _ { tmps := #[.pointer (some ⟨n0, 0, none⟩), .pointer (some ⟨n1, 0, none⟩), .pointer (some ⟨n2, 0, none⟩), undef, undef, undef, .iface 41 (.string x), undef, undef, undef, undef, undef, undef], defers := [] } w
  have c0 := heap_cell h0 0
  have f0 := heap_free h0 0
  have c1 : (w.setCell ⟨n0, 0, none⟩ (.int .i64 0)).cell? ⟨n1, 0, none⟩ = some (.string a1) := heap_cell (set_other h1 _ h01) 0
  have f1 : (w.setCell ⟨n0, 0, none⟩ (.int .i64 0)).frozen? ⟨n1, 0, none⟩ = false := heap_free (set_other h1 _ h01) 0
  have c2 : ((w.setCell ⟨n0, 0, none⟩ (.int .i64 0)).setCell ⟨n1, 0, none⟩ (.string x)).cell? ⟨n2, 0, none⟩ = some (.bool a2) := heap_cell (set_other (set_other h2 _ h02) _ h12) 0
  have f2 : ((w.setCell ⟨n0, 0, none⟩ (.int .i64 0)).setCell ⟨n1, 0, none⟩ (.string x)).frozen? ⟨n2, 0, none⟩ = false := heap_free (set_other (set_other h2 _ h02) _ h12) 0
  have hta := assert_asked x w
  clear h0 h1 h2 h01 h02 h12
  go_wp2
  simp [bodyPostS, results, Tryd.results14]
/-- Three variables of the call's own. -/
structure R3 (W : World) (n : Nat) (a : Int) (p : ByteArray) (b : Bool) : Prop where
  h0 : W.heap[n]? = some (.cells #[.int .i64 a] 3 (0, 0))
  h1 : W.heap[n + 1]? = some (.cells #[.string p] 9 (0, 0))
  h2 : W.heap[n + 1 + 1]? = some (.cells #[.bool b] 4 (0, 0))
theorem R3.new (w : World) : R3 (((w.alloc (.cells #[.int .i64 0] 3)).alloc (.cells #[.string noB] 9)).alloc (.cells #[.bool false] 4)) w.heap.size 0 noB false where
  h0 := by
    rw [Below.heap_alloc _ _ _ (by simp; omega), Below.heap_alloc _ _ _ (by simp)]; exact at_new _ _
  h1 := by
    rw [Below.heap_alloc _ _ _ (by simp)]
    have := at_new (w.alloc (.cells #[.int .i64 0] 3)) (.cells #[.string noB] 9)
    rw [World.size_alloc] at this; exact this
  h2 := by
    have := at_new ((w.alloc (.cells #[.int .i64 0] 3)).alloc (.cells #[.string noB] 9)) (.cells #[.bool false] 4)
    rw [World.size_alloc, World.size_alloc] at this; exact this
theorem R3.still {W w' : World} {n : Nat} {a : Int} {p : ByteArray} {b : Bool} (h : R3 W n a p b) (hb : Below W.heap.size W w') : R3 w' n a p b where
  h0 := by rw [hb.block n (Array.getElem?_eq_some_iff.1 h.h0).1]; exact h.h0
  h1 := by rw [hb.block (n + 1) (Array.getElem?_eq_some_iff.1 h.h1).1]; exact h.h1
  h2 := by rw [hb.block (n + 1 + 1) (Array.getElem?_eq_some_iff.1 h.h2).1]; exact h.h2
theorem R3.put {W : World} {n : Nat} {a : Int} {p : ByteArray} {b : Bool} (h : R3 W n a p b) (a' : Int) (p' : ByteArray) (b' : Bool) :
    R3 (((W.setCell ⟨n, 0, none⟩ (.int .i64 a')).setCell ⟨n + 1, 0, none⟩ (.string p')).setCell ⟨n + 1 + 1, 0, none⟩ (.bool b')) n a' p' b' where
  h0 := set_other (set_other (set_same h.h0 _) _ (by omega)) _ (by omega)
  h1 := set_other (set_same (set_other h.h1 _ (by omega)) _) _ (by omega)
  h2 := set_same (set_other (set_other h.h2 _ (by omega)) _ (by omega)) _
theorem R3.below {w W : World} {n B : Nat} (h : Below B w W) (hn : B ≤ n) (u v x : Value) : Below B w (((W.setCell ⟨n, 0, none⟩ u).setCell ⟨n + 1, 0, none⟩ v).setCell ⟨n + 1 + 1, 0, none⟩ x) :=
  ((h.setCell hn _).setCell (Nat.le_succ_of_le hn) _).setCell (Nat.le_succ_of_le (Nat.le_succ_of_le hn)) _
/-- What a Check ends with. -/
def ckEnd : Told → Ending
  | .inl n => .returned (.tuple #[.int .i64 n, .string noB, .bool false])
  | .inr x => .returned (.tuple #[.int .i64 0, .string x, .bool true])
def CP (t : Told) (w : World) (e : Ending) (w' : World) : Prop := e = ckEnd t ∧ Below w.heap.size w w'
theorem check_of (l v : Value) (t : Told) (w : World) (ht : ∀ W, Below w.heap.size w W → Calls Tryd.prog 15 #[l, v] W (TP t W)) : Calls Tryd.prog 9 #[l, v] w (CP t w) := by
  have hmf : ∀ (fn : Fn) (first cap : Array Value) (w : World), (Instr.makeFunc fn first cap).run Tryd.prog w = .ok (.func fn first cap) w := fun _ _ _ _ => rfl
  have HT := Lib.hid ht
  clear ht
  go_enter_defers Tryd.func9, Tryd.ntmps9
  go_wp2_with fail
  refine (HT.out _ ((((Below.refl w.heap.size w).alloc (Nat.le_refl _) (.cells #[.int .i64 0] 3)).alloc (by simp) (.cells #[.string noB] 9)).alloc (by simp; omega) (.cells #[.bool false] 4))).mono ?_
  rintro e w1 ⟨he, hb⟩
  have hr := (R3.new w).still hb
  have HB := Lib.hid (((((Below.refl w.heap.size w).alloc (Nat.le_refl _) (.cells #[.int .i64 0] 3)).alloc (by simp) (.cells #[.string noB] 9)).alloc (by simp; omega) (.cells #[.bool false] 4)).trans (hb.mono (by simp; omega)))
  have HR := Lib.hid hr
  clear hb hr
  cases t with
  | inl n =>
    replace he : e = .returned (.int .i64 n) := he
    subst he
    have hp := HR.out.put n noB false
    have hbp := R3.below HB.out (Nat.le_refl _) (.int .i64 n) (.string noB) (.bool false)
    have c0 := heap_cell HR.out.h0 0
    have f0 := heap_free HR.out.h0 0
    have c1 := heap_cell (set_other (b := w.heap.size) (i := 0) HR.out.h1 (.int .i64 n) (by omega)) 0
    have f1 := heap_free (set_other (b := w.heap.size) (i := 0) HR.out.h1 (.int .i64 n) (by omega)) 0
    have c2 := heap_cell (set_other (b := w.heap.size + 1) (i := 0) (set_other (b := w.heap.size) (i := 0) HR.out.h2 (.int .i64 n) (by omega)) (.string noB) (by omega)) 0
    have f2 := heap_free (set_other (b := w.heap.size + 1) (i := 0) (set_other (b := w.heap.size) (i := 0) HR.out.h2 (.int .i64 n) (by omega)) (.string noB) (by omega)) 0
    have HP := Lib.hid hp
    have HBP := Lib.hid hbp
    clear hp hbp
    go_wp2
    refine leaves_cons (f := 14) (args := #[.pointer (some ⟨w.heap.size, 0, none⟩), .pointer (some ⟨w.heap.size + 1, 0, none⟩), .pointer (some ⟨w.heap.size + 1 + 1, 0, none⟩)]) (by simp) (by simp [go_sem]) ?_
    refine (catch_idle _ _ _ _).mono ?_
    rintro e u' w'' ⟨rfl, rfl, rfl⟩
    have d0 := heap_cell HP.out.h0 0
    have d1 := heap_cell HP.out.h1 0
    have d2 := heap_cell HP.out.h2 0
    simp [Leaves, settle, results, Tryd.results9, go_sem, d0, d1, d2]
    exact ⟨rfl, HBP.out⟩
  | inr x =>
    replace he : e = .panicked [{ v := .iface 41 (.string x), recovered := false }] := he
    subst he
    have HP := Lib.hid (HR.out.put 0 x true)
    have HBP := Lib.hid (R3.below HB.out (Nat.le_refl _) (.int .i64 0) (.string x) (.bool true))
    have HC := Lib.hid (catch_asked w.heap.size (w.heap.size + 1) (w.heap.size + 1 + 1) x [] w1 0 noB false HR.out.h0 HR.out.h1 HR.out.h2 (by omega) (by omega) (by omega))
    go_wp2
    refine leaves_cons (f := 14) (args := #[.pointer (some ⟨w.heap.size, 0, none⟩), .pointer (some ⟨w.heap.size + 1, 0, none⟩), .pointer (some ⟨w.heap.size + 1 + 1, 0, none⟩)]) (by simp) (by simp [go_sem]) ?_
    refine HC.out.mono ?_
    rintro e u' w'' ⟨rfl, rfl, rfl⟩
    have d0 := heap_cell HP.out.h0 0
    have d1 := heap_cell HP.out.h1 0
    have d2 := heap_cell HP.out.h2 0
    simp [Leaves, settle, results, Tryd.results9, go_sem, d0, d1, d2]
    exact ⟨rfl, HBP.out⟩
end Go.Proofs.YthomdgejbkcljaaDoor
