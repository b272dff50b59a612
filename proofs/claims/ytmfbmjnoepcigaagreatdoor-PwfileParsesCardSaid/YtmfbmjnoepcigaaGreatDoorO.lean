/- The reference's Same. -/
import Derived.Test.YtmfbmjnoepcigaaGreatDoorN
import Derived.Laws.StructEq
namespace Go.Proofs.YtmfbmjnoepcigaaGreatDoor
open Go.RowKit

theorem bne_dec (a b : Int) : (a != b) = !decide (a = b) := by
  by_cases h : a = b
  · simp [h]
  · rw [decide_eq_false h]; simpa using h
theorem bf_and (f g : UserS) : ((f.name.toList == g.name.toList) && ((f.pass.toList == g.pass.toList) && ((f.id == g.id) && ((f.group == g.group) && ((f.home.toList == g.home.toList) && (f.shell.toList == g.shell.toList)))))) = decide (f = g) := by
  rw [eq_text, eq_text, eq_text, eq_text, Bool.eq_iff_iff]
  obtain ⟨a1, a2, a3, a4, a5, a6⟩ := f
  obtain ⟨b1, b2, b3, b4, b5, b6⟩ := g
  simp
theorem eq_run (f g : UserS) (W : World) : (Op.equalIn 10000 29 (.agg (userC f)) (.agg (userC g))).run Tryz.prog W = .ok (decide (f = g)) W := by
  rw [run_equalIn_agg W 9999 29 _ _ (by simp only [Program.fieldsOf, Tryz.underlying29]) (by kernel_rfl)]
  rw [← bf_and]
  simp [Program.fieldsOf, Tryz.underlying29, Op.eqFields, userC, go_sem]
  by_cases h1 : f.name.toList = g.name.toList
  · by_cases h2 : f.pass.toList = g.pass.toList
    · by_cases h3 : f.id = g.id
      · by_cases h4 : f.group = g.group
        · by_cases h5 : f.home.toList = g.home.toList
          · by_cases h6 : f.shell.toList = g.shell.toList
            · simp [h1, h2, h3, h4, h5, h6]
            · simp [h1, h2, h3, h4, h5, h6]
          · simp [h1, h2, h3, h4, h5]
        · simp [h1, h2, h3, h4]
      · simp [h1, h2, h3]
    · simp [h1, h2]
  · simp [h1]
theorem guard33 : Tryz.prog.eqGuardType Tryz.prog.depth 29 = false := by kernel_rfl
theorem eq_users (f g : UserS) (W : World) {q : Bool} (hq : decide (f = g) = q) : (Op.equalIn 10000 29 (.agg #[.string f.name, .string f.pass, .int .i64 f.id, .int .i64 f.group, .string f.home, .string f.shell]) (.agg #[.string g.name, .string g.pass, .int .i64 g.id, .int .i64 g.group, .string g.home, .string g.shell])).run Tryz.prog W = .ok q W := by
  rw [← hq]; exact eq_run f g W
set_option maxHeartbeats 2000000 in
set_option maxRecDepth 100000 in
theorem same_any (v1 v2 : Value) (A B : List UserS) (w : World) (h1 : InU w v1 A) (h2 : InU w v2 B) (hA : A.length ≤ 140737488355328) (hB : B.length ≤ 140737488355328) :
    Calls Tryz.prog 9 #[v1, v2] w fun e w' => e = .returned (.bool (decide (A = B))) ∧ Below w.heap.size w w' := by
  obtain ⟨a1, c1, rfl, k1⟩ := h1
  obtain ⟨a2, c2, rfl, k2⟩ := h2
  have H1 : Hid (InU w (.slice a1 A.length c1) A) := Lib.hid ⟨a1, c1, rfl, k1⟩
  have H2 : Hid (InU w (.slice a2 B.length c2) B) := Lib.hid ⟨a2, c2, rfl, k2⟩
  clear k1 k2
  by_cases hl : A.length = B.length
  · have hne : ((A.length : Int) != (B.length : Int)) = false := by rw [hl]; simp
    have HL := Lib.hid hl
    have hA1 : (A.length : Int) ≤ 140737488355328 := by omega
    clear hl hA hB
    go_enter Tryz.func9, Tryz.ntmps9
    go_wp2
    go_loopw [5] (fun v5 wr => ∃ k : Nat, k ≤ A.length ∧ v5 = .int .i64 k ∧ Hid (Below w.heap.size w wr ∧ A.take k = B.take k)) (fun v5 _ => A.length - (intOf v5).toNat)
    case atStart => exact ⟨0, Nat.zero_le _, rfl, Lib.hid ⟨Below.refl _ _, rfl⟩⟩
    case round =>
      obtain ⟨k, hk, rfl, HH⟩ := hrel
      by_cases hlt : k < A.length
      · have hlt1 : (k : Int) < A.length := by omega
        have hltB : k < B.length := by rw [← HL.out]; exact hlt
        have hlt2 : (k : Int) < B.length := by omega
        obtain ⟨b1, o1, rfl, hu1⟩ := H1.out.uc HH.out.1 hlt
        obtain ⟨b2, o2, rfl, hu2⟩ := H2.out.uc HH.out.1 hltB
        have HT1 := Lib.hid (List.take_succ_eq_append_getElem hlt)
        have HT2 := Lib.hid (List.take_succ_eq_append_getElem hltB)
        have HNX : Hid (A[k] = B[k] → A.take (k + 1) = B.take (k + 1)) := Lib.hid (fun h => by rw [HT1.out, HT2.out, HH.out.2, h])
        have HNE : Hid (A[k] ≠ B[k] → A ≠ B) := Lib.hid (fun h e => h (by subst e; rfl))
        generalize A[k] = f1 at *
        generalize B[k] = f2 at *
        obtain ⟨g0, g1, g2, g3, g4, g5⟩ := hu1
        obtain ⟨i0, i1, i2, i3, i4, i5⟩ := hu2
        clear hltB
        have hgd := guard33
        by_cases he : f1 = f2
        · have heq : ∀ W, _ := fun W => eq_users f1 f2 W (decide_eq_true he)
          have HN2 := Lib.hid (HNX.out he)
          clear he HNX HNE
          go_upto_region 6 with fail
          go_quiet (fail)
          go_wp2
          go_roundw
          case rel => exact ⟨k + 1, by omega, by go_num, Lib.hid ⟨drewN_below HH.out.1 _, HN2.out⟩⟩
          case measure => simp [intOf]; omega
        · have heq : ∀ W, _ := fun W => eq_users f1 f2 W (decide_eq_false he)
          have HR : Hid (decide (A = B) = false) := Lib.hid (decide_eq_false (HNE.out he))
          clear he HNX HNE
          go_upto_region 6 with fail
          go_quiet (fail)
          go_wp2
          go_ret
          exact ⟨by rw [HR.out]; rfl, drewN_below HH.out.1 _⟩
      · have hlt1 : ¬ (k : Int) < A.length := by omega
        have HR : Hid (decide (A = B) = true) := Lib.hid (decide_eq_true (by
          have h := HH.out.2
          rw [List.take_of_length_le (by omega), List.take_of_length_le (by have := HL.out; omega)] at h
          exact h))
        go_wp2
        go_ret
        exact ⟨by rw [HR.out]; rfl, HH.out.1⟩
  · have hne : ((A.length : Int) != (B.length : Int)) = true := by simp; omega
    have HR : Hid (decide (A = B) = false) := Lib.hid (decide_eq_false fun e => hl (by rw [e]))
    clear hl hA hB
    go_enter Tryz.func9, Tryz.ntmps9
    go_wp2
    go_ret
    exact ⟨by rw [HR.out]; rfl, Below.refl _ _⟩
end Go.Proofs.YtmfbmjnoepcigaaGreatDoor
