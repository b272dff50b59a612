/- Two lists that are the same; shown. -/
import Derived.Test.YtpjjdaenckedbaaDoorS
import Derived.Laws.StructEq
namespace Go.Proofs.YtpjjdaenckedbaaDoor
open Go.RowKit

theorem eq_var (f : VarS) (W : World) : (Op.equalIn 10000 25 (.agg #[.string (B f.name), .string (B f.value), .bool false, .bool false]) (.agg #[.string (B f.name), .string (B f.value), .bool false, .bool false])).run Tryd.prog W = .ok true W := by
  rw [run_equalIn_agg W 9999 25 _ _ (by simp only [Program.fieldsOf, Tryd.underlying25]) (by kernel_rfl)]
  simp [Program.fieldsOf, Tryd.underlying25, Op.eqFields, go_sem]
theorem guard25 : Tryd.prog.eqGuardType Tryd.prog.depth 25 = false := by kernel_rfl
theorem InV.at {w wr : World} {a : Option Addr} {c : Nat} {L : List VarS} (h : InV w (.slice a L.length c) L) (hb : Below w.heap.size w wr) {k : Nat} (hk : k < L.length) :
    ∃ b off, a = some ⟨b, off, none⟩ ∧ wr.cell? ⟨b, off + k * 4, none⟩ = some (.string (B L[k].name)) ∧ wr.cell? ⟨b, off + k * 4 + 1, none⟩ = some (.string (B L[k].value)) ∧ wr.cell? ⟨b, off + k * 4 + 2, none⟩ = some (.bool false) ∧ wr.cell? ⟨b, off + k * 4 + 3, none⟩ = some (.bool false) := by
  obtain ⟨a', c', hv, h2⟩ := h.below hb
  obtain ⟨rfl, rfl⟩ : a = a' ∧ c = c' := by simp at hv; exact hv
  obtain ⟨b, off, ha, hc⟩ := h2 k hk
  exact ⟨b, off, ha, hc 0 (by omega), hc 1 (by omega), hc 2 (by omega), hc 3 (by omega)⟩
set_option maxHeartbeats 2000000 in
set_option maxRecDepth 100000 in
theorem same_eq (v1 v2 : Value) (A : List VarS) (w : World) (h1 : InV w v1 A) (h2 : InV w v2 A) (hA : A.length ≤ 140737488355328) :
    Calls Tryd.prog 11 #[v1, v2] w fun e w' => e = .returned (.bool true) ∧ Below w.heap.size w w' := by
  obtain ⟨a1, c1, rfl, k1⟩ := h1
  obtain ⟨a2, c2, rfl, k2⟩ := h2
  have H1 : Hid (InV w (.slice a1 A.length c1) A) := Lib.hid ⟨a1, c1, rfl, k1⟩
  have H2 : Hid (InV w (.slice a2 A.length c2) A) := Lib.hid ⟨a2, c2, rfl, k2⟩
  clear k1 k2
  have hne : ((A.length : Int) != (A.length : Int)) = false := by simp
  have hA1 : (A.length : Int) ≤ 140737488355328 := by omega
  clear hA
  go_enter Tryd.func11, Tryd.ntmps11
  go_wp2
  go_loopw [5] (fun v5 wr => ∃ k : Nat, k ≤ A.length ∧ v5 = .int .i64 k ∧ Hid (Below w.heap.size w wr)) (fun v5 _ => A.length - (intOf v5).toNat)
  case atStart => exact ⟨0, Nat.zero_le _, rfl, Lib.hid (Below.refl _ _)⟩
  case round =>
    obtain ⟨k, hk, rfl, HH⟩ := hrel
    by_cases hlt : k < A.length
    · have hlt1 : (k : Int) < A.length := by omega
      obtain ⟨b1, o1, rfl, g0, g1, g2, g3⟩ := H1.out.at HH.out hlt
      obtain ⟨b2, o2, rfl, i0, i1, i2, i3⟩ := H2.out.at HH.out hlt
      generalize A[k] = f at *
      have hgd := guard25
      have heq := eq_var f
      go_upto_region 6 with fail
      go_quiet (fail)
      go_wp2
      go_roundw
      case rel => exact ⟨k + 1, by omega, by go_num, Lib.hid (HH.out.trans ((drewN_below _ _).mono HH.out.size))⟩
      case measure => simp [intOf]; omega
    · have hlt1 : ¬ (k : Int) < A.length := by omega
      go_wp2
      go_ret
      exact ⟨rfl, HH.out⟩
theorem vs_nil : VS [] := fun v hv => by cases hv
theorem one_var (w : World) (x v : Bytes) : InV (w.alloc (.cells #[.string (B x), .string (B v), .bool false, .bool false] 25)) (.slice (some ⟨w.heap.size, 0, none⟩) 1 1) [⟨x, v⟩] :=
  ⟨some ⟨w.heap.size, 0, none⟩, 1, rfl, fun j hj => ⟨w.heap.size, 0, rfl, fun i hi => by
    obtain rfl : j = 0 := by simpa using hj
    rw [Nat.zero_add, heap_cell (at_new w _) i]
    simp [varL]⟩⟩
/-- Value of a text, with what it makes known. -/
theorem value_is {s : Bytes} {l : List VarS} {v c : Int} {st : List VarS} (he : valueS s l = (v, st, c)) (lv : Value) (w : World) (hv : InV w lv l) (hP : HasP w) (hV : VS l) (hl : l.length ≤ 140737488355328) :
    Calls Tryd.prog 10 #[.string (B s), lv] w fun e w' => ∃ a cap, e = .returned (.tuple #[.int .i64 v, .slice a st.length cap, .int .i64 c]) ∧ InV w' (.slice a st.length cap) st ∧ Below w.heap.size w w' := by
  have h := value_law s lv l w hv hP hV hl
  rw [he] at h
  refine h.mono ?_
  rintro e w' ⟨sv, rfl, hi, hb⟩
  obtain ⟨a, cap, rfl, hc⟩ := hi
  exact ⟨a, cap, rfl, ⟨a, cap, rfl, hc⟩, hb⟩
set_option maxHeartbeats 4000000 in
set_option maxRecDepth 100000 in
theorem shown_any (w : World) (hP : HasP w) : Calls Tryd.prog 8 #[] w fun e w' => e = .returned (.bool true) ∧ Below w.heap.size w w' := by
  have HP := Lib.hid hP
  clear hP
  go_enter Tryd.func8, Tryd.ntmps8
  go_wp2_with fail
  refine (value_is val_h1 (.slice none 0 0) w (inv_nil w) HP.out vs_nil (by simp)).mono ?_
  rintro e w1 ⟨a1, p1, rfl, _, hb1⟩
  have HB1 := Lib.hid hb1
  clear hb1
  have HX2 := Lib.hid ((Below.refl w1.heap.size w1).alloc (Nat.le_refl _) (.cells #[.string (B [97]), .string (B [52,48]), .bool false, .bool false] 25))
  go_wp2_with fail
  refine (value_is val_h2 _ _ (one_var w1 [97] [52,48]) ((HP.out.below HB1.out).below HX2.out) (fun v hv => by simp at hv; subst hv; decide) (by simp)).mono ?_
  rintro e w2 ⟨a2, p2, rfl, hi2, hb2⟩
  have HB2 := Lib.hid (HB1.out.trans ((HX2.out.trans (hb2.mono (by simp))).mono HB1.out.size))
  have HI2 := Lib.hid hi2
  clear hb2 hi2
  go_wp2_with fail
  refine (value_is val_h3 (.slice none 0 0) w2 (inv_nil w2) (HP.out.below HB2.out) vs_nil (by simp)).mono ?_
  rintro e w3 ⟨a3, p3, rfl, hj3, hb3⟩
  have HB3 := Lib.hid (HB2.out.trans (hb3.mono HB2.out.size))
  have HI3 := Lib.hid (HI2.out.below hb3)
  clear hb3 hj3
  go_wp2_with fail
  refine (value_is val_h4 (.slice none 0 0) w3 (inv_nil w3) (HP.out.below HB3.out) vs_nil (by simp)).mono ?_
  rintro e w4 ⟨a4, p4, rfl, hj4, hb4⟩
  have HB4 := Lib.hid (HB3.out.trans (hb4.mono HB3.out.size))
  have hi4 := HI3.out.below hb4
  clear hb4 hj4
  obtain ⟨b, off, rfl, g0, g1, g2, g3⟩ := InV.at (L := [⟨[97], [52,50]⟩]) hi4 (Below.refl _ _) (k := 0) (by simp)
  clear hi4 HI3 HI2
  have g1' : w4.cell? ⟨b, off + 1, none⟩ = some (.string (B [52,50])) := by simpa using g1
  have hc := B_cmp [52,50]
  clear g0 g1 g2 g3
  go_wp2
  go_ret
  exact ⟨rfl, HB4.out⟩
end Go.Proofs.YtpjjdaenckedbaaDoor
