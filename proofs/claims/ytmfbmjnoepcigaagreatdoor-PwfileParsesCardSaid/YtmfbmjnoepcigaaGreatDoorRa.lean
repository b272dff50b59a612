/- The document's Find and Of. -/
import Derived.Test.YtmfbmjnoepcigaaGreatDoorH
namespace Go.Proofs.YtmfbmjnoepcigaaGreatDoor
open Go.RowKit

theorem leave15 {T : Array Value} {W : World} (n0 : Nat) {f : UserS} {b : Bool} (hT4 : T[4]? = some (.pointer (some ⟨n0, 0, none⟩))) (hT5 : T[5]? = some (.bool b))
    (hres : W.heap[n0]? = some (.cells (userC f) 29 (0, 0))) {R : Ending → World → Prop} (hR : R (.returned (.tuple #[.agg (userC f), .bool b])) W) :
    bodyPost Tryz.prog Tryz.f15 R Exit.ret { tmps := T, defers := [] } W := by
  have c0 : W.cell? ⟨n0, 0, none⟩ = some (.string f.name) := heap_cell hres 0
  have c1 : W.cell? ⟨n0, 1, none⟩ = some (.string f.pass) := heap_cell hres 1
  have c2 : W.cell? ⟨n0, 2, none⟩ = some (.int .i64 f.id) := heap_cell hres 2
  have c3 : W.cell? ⟨n0, 3, none⟩ = some (.int .i64 f.group) := heap_cell hres 3
  have c4 : W.cell? ⟨n0, 4, none⟩ = some (.string f.home) := heap_cell hres 4
  have c5 : W.cell? ⟨n0, 5, none⟩ = some (.string f.shell) := heap_cell hres 5
  exact bodyPost_ret (v := .tuple #[.agg (userC f), .bool b]) (by simp [results, Tryz.results15, go_sem, hT4, hT5, c0, c1, c2, c3, c4, c5, userC]) rfl hR
theorem leave17 {T : Array Value} {W : World} (n0 : Nat) {f : UserS} {b : Bool} (hT4 : T[4]? = some (.pointer (some ⟨n0, 0, none⟩))) (hT5 : T[5]? = some (.bool b))
    (hres : W.heap[n0]? = some (.cells (userC f) 29 (0, 0))) {R : Ending → World → Prop} (hR : R (.returned (.tuple #[.agg (userC f), .bool b])) W) :
    bodyPost Tryz.prog Tryz.f17 R Exit.ret { tmps := T, defers := [] } W := by
  have c0 : W.cell? ⟨n0, 0, none⟩ = some (.string f.name) := heap_cell hres 0
  have c1 : W.cell? ⟨n0, 1, none⟩ = some (.string f.pass) := heap_cell hres 1
  have c2 : W.cell? ⟨n0, 2, none⟩ = some (.int .i64 f.id) := heap_cell hres 2
  have c3 : W.cell? ⟨n0, 3, none⟩ = some (.int .i64 f.group) := heap_cell hres 3
  have c4 : W.cell? ⟨n0, 4, none⟩ = some (.string f.home) := heap_cell hres 4
  have c5 : W.cell? ⟨n0, 5, none⟩ = some (.string f.shell) := heap_cell hres 5
  exact bodyPost_ret (v := .tuple #[.agg (userC f), .bool b]) (by simp [results, Tryz.results17, go_sem, hT4, hT5, c0, c1, c2, c3, c4, c5, userC]) rfl hR
set_option maxHeartbeats 2000000 in
set_option maxRecDepth 100000 in
theorem rfind_any (v : Value) (fs : List UserS) (x : ByteArray) (w : World) (hF : InU w v fs) (hn : fs.length ≤ 140737488355328) :
    Calls Tryz.prog 15 #[v, .string x] w (FoundP (isName x) fs w) := by
  obtain ⟨a, cap, rfl, hc⟩ := hF
  have HF : Hid (InU w (.slice a fs.length cap) fs) := Lib.hid ⟨a, cap, rfl, hc⟩
  clear hc
  have hn1 : (fs.length : Int) ≤ 140737488355328 := by omega
  have HN := Lib.hid hn
  clear hn
  go_enter Tryz.func15, Tryz.ntmps15
  go_wp2
  go_loopw [6] (fun v6 wr => ∃ k : Nat, k ≤ fs.length ∧ v6 = .int .i64 k ∧ Hid (Below w.heap.size w wr ∧ wr.heap[w.heap.size]? = some (.cells (userC zeroU) 29 (0, 0)) ∧ ∀ j (hj : j < k) (hj2 : j < fs.length), isName x fs[j] = false)) (fun v6 _ => fs.length - (intOf v6).toNat)
  case atStart => exact ⟨0, Nat.zero_le _, rfl, Lib.hid ⟨(Below.refl w.heap.size w).alloc (Nat.le_refl _) (.cells (userC zeroU) 29), at_new w (.cells (userC zeroU) 29), fun j hj => by omega⟩⟩
  case round =>
    obtain ⟨k, hk, rfl, HH⟩ := hrel
    by_cases hlt : k < fs.length
    · have hlt1 : (k : Int) < fs.length := by omega
      obtain ⟨b, off, rfl, hu⟩ := HF.out.uc HH.out.1 hlt
      have HKK : Hid (∃ h : k < fs.length, fs[k] = fs[k] ∧ (isName x fs[k] = true → FoundP (isName x) fs w (.returned (.tuple #[.agg (userC fs[k]), .bool true])) (sixW wr w.heap.size (.string fs[k].name) (.string fs[k].pass) (.int .i64 fs[k].id) (.int .i64 fs[k].group) (.string fs[k].home) (.string fs[k].shell)))) :=
        Lib.hid ⟨hlt, rfl, fun h => ⟨sixW_below HH.out.1 (Nat.le_refl _) _ _ _ _ _ _, .inl ⟨k, hlt, h, fun j hj => HH.out.2.2 j hj (by omega), rfl⟩⟩⟩
      have HNX : Hid (isName x (fs[k]'hlt) = false → ∀ j (hj : j < k + 1) (hj2 : j < fs.length), isName x fs[j] = false) := Lib.hid fun h j hj hj2 => by
        by_cases he : j = k
        · subst he; exact h
        · exact HH.out.2.2 j (by omega) hj2
      have HKJ : Hid (isName x (fs[k]'hlt) = true → FoundP (isName x) fs w (.returned (.tuple #[.agg (userC (fs[k]'hlt)), .bool true])) (sixW wr w.heap.size (.string (fs[k]'hlt).name) (.string (fs[k]'hlt).pass) (.int .i64 (fs[k]'hlt).id) (.int .i64 (fs[k]'hlt).group) (.string (fs[k]'hlt).home) (.string (fs[k]'hlt).shell))) := Lib.hid HKK.out.2.2
      clear HKK
      generalize fs[k]'hlt = f at *
      obtain ⟨g0, g1, g2, g3, g4, g5⟩ := hu
      obtain ⟨⟨e0, e1, e2, e3, e4, e5⟩, ⟨z0, z1, z2, z3, z4, z5⟩⟩ := six_facts HH.out.2.1
      have he1 : (f.name.toList == x.toList) = isName x f := eq_text _ _
      cases hp : isName x f with
      | true =>
        rw [hp] at he1
        have HX := Lib.hid (HKJ.out hp)
        clear hp HKJ HNX
        go_wp2
        exact leave15 w.heap.size rfl rfl (sixW_at HH.out.2.1 f) HX.out
      | false =>
        rw [hp] at he1
        have HX := Lib.hid (HNX.out hp)
        clear hp HKJ HNX e0 e1 e2 e3 e4 e5 z0 z1 z2 z3 z4 z5
        go_wp2
        go_roundw
        case rel => exact ⟨k + 1, by omega, by go_num, Lib.hid ⟨HH.out.1, HH.out.2.1, HX.out⟩⟩
        case measure => simp [intOf]; omega
    · have hlt1 : ¬ (k : Int) < fs.length := by omega
      have HX : Hid (∀ f ∈ fs, isName x f = false) := Lib.hid fun f hf => by
        obtain ⟨j, hj, rfl⟩ := List.getElem_of_mem hf
        exact HH.out.2.2 j (by omega) hj
      obtain ⟨⟨e0, e1, e2, e3, e4, e5⟩, ⟨z0, z1, z2, z3, z4, z5⟩⟩ := six_facts HH.out.2.1
      go_wp2
      exact leave15 w.heap.size rfl rfl (sixW_at HH.out.2.1 zeroU) ⟨sixW_below HH.out.1 (Nat.le_refl _) _ _ _ _ _ _, .inr ⟨HX.out, rfl⟩⟩
set_option maxHeartbeats 2000000 in
set_option maxRecDepth 100000 in
theorem rof_any (v : Value) (fs : List UserS) (x : Int) (w : World) (hF : InU w v fs) (hn : fs.length ≤ 140737488355328) :
    Calls Tryz.prog 17 #[v, .int .i64 x] w (FoundP (isId x) fs w) := by
  obtain ⟨a, cap, rfl, hc⟩ := hF
  have HF : Hid (InU w (.slice a fs.length cap) fs) := Lib.hid ⟨a, cap, rfl, hc⟩
  clear hc
  have hn1 : (fs.length : Int) ≤ 140737488355328 := by omega
  have HN := Lib.hid hn
  clear hn
  go_enter Tryz.func17, Tryz.ntmps17
  go_wp2
  go_loopw [6] (fun v6 wr => ∃ k : Nat, k ≤ fs.length ∧ v6 = .int .i64 k ∧ Hid (Below w.heap.size w wr ∧ wr.heap[w.heap.size]? = some (.cells (userC zeroU) 29 (0, 0)) ∧ ∀ j (hj : j < k) (hj2 : j < fs.length), isId x fs[j] = false)) (fun v6 _ => fs.length - (intOf v6).toNat)
  case atStart => exact ⟨0, Nat.zero_le _, rfl, Lib.hid ⟨(Below.refl w.heap.size w).alloc (Nat.le_refl _) (.cells (userC zeroU) 29), at_new w (.cells (userC zeroU) 29), fun j hj => by omega⟩⟩
  case round =>
    obtain ⟨k, hk, rfl, HH⟩ := hrel
    by_cases hlt : k < fs.length
    · have hlt1 : (k : Int) < fs.length := by omega
      obtain ⟨b, off, rfl, hu⟩ := HF.out.uc HH.out.1 hlt
      have HKK : Hid (∃ h : k < fs.length, fs[k] = fs[k] ∧ (isId x fs[k] = true → FoundP (isId x) fs w (.returned (.tuple #[.agg (userC fs[k]), .bool true])) (sixW wr w.heap.size (.string fs[k].name) (.string fs[k].pass) (.int .i64 fs[k].id) (.int .i64 fs[k].group) (.string fs[k].home) (.string fs[k].shell)))) :=
        Lib.hid ⟨hlt, rfl, fun h => ⟨sixW_below HH.out.1 (Nat.le_refl _) _ _ _ _ _ _, .inl ⟨k, hlt, h, fun j hj => HH.out.2.2 j hj (by omega), rfl⟩⟩⟩
      have HNX : Hid (isId x (fs[k]'hlt) = false → ∀ j (hj : j < k + 1) (hj2 : j < fs.length), isId x fs[j] = false) := Lib.hid fun h j hj hj2 => by
        by_cases he : j = k
        · subst he; exact h
        · exact HH.out.2.2 j (by omega) hj2
      have HKJ : Hid (isId x (fs[k]'hlt) = true → FoundP (isId x) fs w (.returned (.tuple #[.agg (userC (fs[k]'hlt)), .bool true])) (sixW wr w.heap.size (.string (fs[k]'hlt).name) (.string (fs[k]'hlt).pass) (.int .i64 (fs[k]'hlt).id) (.int .i64 (fs[k]'hlt).group) (.string (fs[k]'hlt).home) (.string (fs[k]'hlt).shell))) := Lib.hid HKK.out.2.2
      clear HKK
      generalize fs[k]'hlt = f at *
      obtain ⟨g0, g1, g2, g3, g4, g5⟩ := hu
      obtain ⟨⟨e0, e1, e2, e3, e4, e5⟩, ⟨z0, z1, z2, z3, z4, z5⟩⟩ := six_facts HH.out.2.1
      have he1 : (f.id == x) = isId x f := by
        unfold isId
        by_cases h : f.id = x
        · rw [decide_eq_true h, h]; simp
        · rw [decide_eq_false h]; simpa using h
      cases hp : isId x f with
      | true =>
        rw [hp] at he1
        have HX := Lib.hid (HKJ.out hp)
        clear hp HKJ HNX
        go_wp2
        exact leave17 w.heap.size rfl rfl (sixW_at HH.out.2.1 f) HX.out
      | false =>
        rw [hp] at he1
        have HX := Lib.hid (HNX.out hp)
        clear hp HKJ HNX e0 e1 e2 e3 e4 e5 z0 z1 z2 z3 z4 z5
        go_wp2
        go_roundw
        case rel => exact ⟨k + 1, by omega, by go_num, Lib.hid ⟨HH.out.1, HH.out.2.1, HX.out⟩⟩
        case measure => simp [intOf]; omega
    · have hlt1 : ¬ (k : Int) < fs.length := by omega
      have HX : Hid (∀ f ∈ fs, isId x f = false) := Lib.hid fun f hf => by
        obtain ⟨j, hj, rfl⟩ := List.getElem_of_mem hf
        exact HH.out.2.2 j (by omega) hj
      obtain ⟨⟨e0, e1, e2, e3, e4, e5⟩, ⟨z0, z1, z2, z3, z4, z5⟩⟩ := six_facts HH.out.2.1
      go_wp2
      exact leave17 w.heap.size rfl rfl (sixW_at HH.out.2.1 zeroU) ⟨sixW_below HH.out.1 (Nat.le_refl _) _ _ _ _ _ _, .inr ⟨HX.out, rfl⟩⟩
end Go.Proofs.YtmfbmjnoepcigaaGreatDoor
