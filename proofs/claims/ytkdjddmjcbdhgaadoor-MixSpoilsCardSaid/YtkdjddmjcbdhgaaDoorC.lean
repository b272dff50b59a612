/- The field of a password, by the program and by the document. -/
import Derived.Test.YtkdjddmjcbdhgaaDoorA
import Derived.Test.YtkdjddmjcbdhgaaDoorB
import Derived.Laws.MakeOwn
namespace Go.Proofs.YtkdjddmjcbdhgaaDoor
open Go.RowKit

/-- The lowest sixteen bits. -/
def sl (n : Int) : Nat := (n % 65536).toNat
theorem sl_cast (n : Int) : n % 65536 = (sl n : Int) ∧ sl n < 65536 := by unfold sl; omega
/-- The field of a salt and a password. -/
def FS (n : Int) (p : ByteArray) : Bytes := fieldS (sl n) (mixS (sl n) p.data.toList)
def HasT (w : World) : Prop := w.cell? ⟨7, 15, none⟩ = some (.int .u8 4)
theorem HasT.below {w W : World} (h : HasT w) (hb : Below w.heap.size w W) : HasT W := by
  have hl := World.block_lt_of_cell? w ⟨7, 15, none⟩ h
  unfold HasT
  rw [hb.cell (p := ⟨7, 15, none⟩) hl]; exact h

set_option maxHeartbeats 1000000 in
theorem field_any (n : Int) (p : ByteArray) (w : World) (hp : p.size ≤ 2000) (hT : HasT w) :
    Calls Tryd.prog 12 #[.int .i64 n, .string p] w fun e w' => ∃ s : ByteArray, s.data.toList = FS n p ∧ e = .returned (.string s) ∧ Below w.heap.size w w' := by
  obtain ⟨h16, h17⟩ := sl_cast n
  have hw16 : IntKind.u16.wrap n = (sl n : Int) := by rw [wrap16, h16]
  have hw64 : IntKind.u64.wrap (sl n : Int) = (sl n : Int) := by rw [IntKind.wrap_u64]; omega
  have hF : FS n p = hexN 4 (sl n) ++ 36 :: hexN 16 (mixS (sl n) p.data.toList) := rfl
  obtain ⟨hm1, hm2⟩ := mix_cast (sl n) p.data.toList
  rw [← h16] at hm1
  have HM := Lib.hid hm1
  have HM2 := Lib.hid hm2
  have HF := Lib.hid hF
  have H16 := Lib.hid h16
  clear hm1 hm2 hF h16
  generalize FS n p = F at *
  generalize mixS (sl n) p.data.toList = M at *
  generalize sl n = S at *
  go_enter Tryd.func12, Tryd.ntmps12
  go_wp2_with fail
  refine (digits_any S 4 (by omega) (by omega) (by omega) _ hT).mono ?_
  rintro e w1 ⟨s1, hs1, rfl, hb1⟩
  have hz1 : s1.size = 4 := by have := congrArg List.length hs1; rw [hexN_len] at this; simpa using this
  have HS1 := Lib.hid hs1
  have HB1 := Lib.hid hb1
  clear hs1 hb1
  go_wp2_with fail
  refine (mix_any n p _ hp).mono ?_
  rintro e w2 ⟨rfl, rfl⟩
  rw [HM.out]
  go_wp2_with fail
  refine (digits_any M 16 (by omega) (by omega) (by have := HM2.out; omega) _ (hT.below HB1.out)).mono ?_
  rintro e w3 ⟨s2, hs2, rfl, hb2⟩
  have hz2 : s2.size = 16 := by have := congrArg List.length hs2; rw [hexN_len] at this; simpa using this
  have HS2 := Lib.hid hs2
  have HB2 := Lib.hid (HB1.out.trans (hb2.mono HB1.out.size))
  clear hs2 hb2
  go_wp2
  go_ret
  refine ⟨_, ?_, rfl, HB2.out⟩
  rw [HF.out, ByteArray.data_append, ByteArray.data_append, Array.toList_append, Array.toList_append, HS1.out, HS2.out]
  simp

theorem info5 : ∃ i0, Tryd.prog.info? 5 = some i0 ∧ i0.zero = some (.int .u8 0) ∧ i0.size = 1 ∧ i0.bytes = 1 := by
  have h : (Tryd.prog.info? 5).map (fun i => (i.zero, i.size, i.bytes)) = some (some (.int .u8 0), 1, 1) := by kernel_rfl
  cases hh : Tryd.prog.info? 5 with
  | none => rw [hh] at h; cases h
  | some i => rw [hh] at h; simp at h; exact ⟨i, rfl, h.1, h.2.1, h.2.2⟩
theorem rdigs0 : ∀ j : Fin 16, (⟨#[48, 49, 50, 51, 52, 53, 54, 55, 56, 57, 97, 98, 99, 100, 101, 102]⟩ : ByteArray)[j.val]'(by have := j.isLt; show j.val < 16; omega) = dig j.val := by decide
theorem rdigs (q : Nat) (h : q < 16) (h2 : q < (⟨#[48, 49, 50, 51, 52, 53, 54, 55, 56, 57, 97, 98, 99, 100, 101, 102]⟩ : ByteArray).size) : (⟨#[48, 49, 50, 51, 52, 53, 54, 55, 56, 57, 97, 98, 99, 100, 101, 102]⟩ : ByteArray)[q] = dig q := rdigs0 ⟨q, h⟩

set_option maxHeartbeats 1000000 in
set_option maxRecDepth 100000 in
theorem rdigits_4 (n : Nat) (hn : n < 16 ^ 4) (w : World) :
    Calls Tryd.prog 19 #[.int .u64 n, .int .i64 4] w fun e w' => ∃ s : ByteArray, s.data.toList = hexN 4 n ∧ e = .returned (.string s) ∧ Below w.heap.size w w' := by
  have hlt : n < 18446744073709551616 := by omega
  clear hn
  obtain ⟨Z, hmk, hZ⟩ : ∃ Z : Array Value, (Instr.makeSlice 30 (.int .i64 4) (.int .i64 4)).run Tryd.prog w = .ok (.slice (some ⟨w.heap.size, 0, none⟩) 4 4) (w.alloc (.cells Z 5)) ∧ Z.size = 4 := by
    obtain ⟨i0, hi, hz0, hz1, hz4⟩ := info5
    refine ⟨_, run_makeSlice w 30 5 i0 (.int .u8 0) Tryd.underlying30 hi hz0 .i64 .i64 4 4 (by omega) (by omega) (by rw [hz1]; decide) (by rw [hz4]; decide) (by omega), ?_⟩
    rw [hz1, size_madeCells]; rfl
  have hz : (w.alloc (Obj.cells Z 5)).heap[w.heap.size]? = some (.cells Z 5 (0, 0)) := at_new _ _
  have hb0 : Below w.heap.size w (w.alloc (Obj.cells Z 5)) := (Below.refl _ _).alloc (Nat.le_refl _) _
  generalize w.alloc (Obj.cells Z 5) = W0 at *
  have HZ := Lib.hid hz
  have HB0 := Lib.hid hb0
  have HZS := Lib.hid hZ
  have HLT := Lib.hid hlt
  clear hz hb0 hZ hlt
  go_enter Tryd.func19, Tryd.ntmps19
  go_wp2
  clear hmk
  go_loopw [0, 6] (fun vu vi wr => ∃ (u m : Nat) (cs : Array Value) (L : Bytes), vu = .int .u64 u ∧ vi = .int .i64 ((m : Int) - 1) ∧ m ≤ 4 ∧ u < 18446744073709551616 ∧ wr.heap[w.heap.size]? = some (.cells cs 5 (0, 0)) ∧ cs.size = 4 ∧ Hid (Below w.heap.size w wr ∧ hexN 4 n = hexN m u ++ L ∧ L.length + m = 4 ∧ cs.toList.drop m = L.map (fun b => Value.int .u8 (b.toNat : Int)))) (fun vu vi _ => (intOf vi + 1).toNat)
  case atStart => exact ⟨n, 4, Z, [], rfl, rfl, by omega, HLT.out, HZ.out, HZS.out, Lib.hid ⟨HB0.out, by simp, rfl, by rw [List.drop_of_length_le (by rw [Array.length_toList, HZS.out]; omega)]; rfl⟩⟩
  case round =>
    obtain ⟨u, m, cs, L, rfl, rfl, hm1, hlt, hcs, hsz, hh⟩ := hrel
    have HC := Lib.hid hcs
    have HS := Lib.hid hsz
    have HL := Lib.hid hlt
    by_cases hm : m = 0
    · subst hm
      have hlist : cs.toList = (hexN 4 n).map (fun b => Value.int .u8 (b.toNat : Int)) := by
        have := hh.out.2.2.2
        rw [hh.out.2.1]; exact this
      have hcv : (convert 30 9 (.slice (some ⟨w.heap.size, 0, none⟩) 4 4)).run Tryd.prog wr = .ok (.string ⟨(hexN 4 n).toArray⟩) wr := by
        have h := run_convert_bytes_back (P := Tryd.prog) wr 30 9 5 ⟨w.heap.size, 0, none⟩ 4 (hexN 4 n) Tryd.underlying30 Tryd.underlying5 Tryd.underlying9 (fun j hj => by
          rw [add_plain, heap_cell HC.out (0 + j)]
          have h1 := congrArg (fun l : List Value => l[j]?) hlist
          simp only [List.getElem?_map, List.getElem?_eq_getElem hj, Option.map_some, Array.getElem?_toList] at h1
          rw [Nat.zero_add]; exact h1)
        rw [hexN_len] at h
        exact h
      clear hcs hsz hlt hlist
      go_wp2
      go_ret
      exact ⟨⟨(hexN 4 n).toArray⟩, by simp, rfl, hh.out.1⟩
    · have i1 : ((m : Int) - 1).toNat = m - 1 := by omega
      have i2 : m - 1 < cs.size := by omega
      have i3 : (0 : Int) ≤ (m : Int) - 1 := by omega
      have i4 : (1 : Int) ≤ m := by omega
      have c1 := heap_cell hcs (m - 1)
      rw [Array.getElem?_eq_getElem i2] at c1
      have c2 := heap_free hcs (m - 1)
      generalize cs[m - 1] = old at c1
      have h15 : bits .and .u64 (u : Int) 15 = ((u % 16 : Nat) : Int) := by
        have := bits_mask .u64 64 (by decide) (fun n h0 h1 => by rw [IntKind.wrap_u64]; omega) 4 (by decide) (u : Int) (by omega) (by omega)
        simp at this
        rw [this]; omega
      have hr : u % 16 < 16 := Nat.mod_lt _ (by decide)
      obtain ⟨q, hq⟩ : ∃ q, u % 16 = q := ⟨_, rfl⟩
      rw [hq] at h15 hr
      have HQ := Lib.hid hq
      have hr3 : (q : Int) < 16 := by omega
      clear hq hcs hsz hlt
      go_wp2
      go_roundw
      case rel =>
        rw [rdigs q hr]
        refine ⟨u / 16, m - 1, _, dig q :: L, by rw [show ((u / 16 : Nat) : Int) = (u : Int) / 16 by omega], ?_, by omega, by have := HL.out; omega, set_same HC.out _, by rw [Array.size_setIfInBounds]; exact HS.out, Lib.hid ⟨hh.out.1.setCell (Nat.le_refl _) _, ?_, ?_, ?_⟩⟩
        · rw [show ((m - 1 : Nat) : Int) = (m : Int) - 1 by omega]
        · rw [hh.out.2.1]
          obtain ⟨m', rfl⟩ : ∃ m', m = m' + 1 := ⟨m - 1, by omega⟩
          rw [hexN, HQ.out, List.append_assoc]; rfl
        · rw [List.length_cons]; have := hh.out.2.2.1; omega
        · exact drop_set (by omega) (by have := HS.out; omega) hh.out.2.2.2
      case measure => simp [intOf]; omega

set_option maxHeartbeats 1000000 in
set_option maxRecDepth 100000 in
theorem rdigits_16 (n : Nat) (hn : n < 16 ^ 16) (w : World) :
    Calls Tryd.prog 19 #[.int .u64 n, .int .i64 16] w fun e w' => ∃ s : ByteArray, s.data.toList = hexN 16 n ∧ e = .returned (.string s) ∧ Below w.heap.size w w' := by
  have hlt : n < 18446744073709551616 := by omega
  clear hn
  obtain ⟨Z, hmk, hZ⟩ : ∃ Z : Array Value, (Instr.makeSlice 30 (.int .i64 16) (.int .i64 16)).run Tryd.prog w = .ok (.slice (some ⟨w.heap.size, 0, none⟩) 16 16) (w.alloc (.cells Z 5)) ∧ Z.size = 16 := by
    obtain ⟨i0, hi, hz0, hz1, hz4⟩ := info5
    refine ⟨_, run_makeSlice w 30 5 i0 (.int .u8 0) Tryd.underlying30 hi hz0 .i64 .i64 16 16 (by omega) (by omega) (by rw [hz1]; decide) (by rw [hz4]; decide) (by omega), ?_⟩
    rw [hz1, size_madeCells]; rfl
  have hz : (w.alloc (Obj.cells Z 5)).heap[w.heap.size]? = some (.cells Z 5 (0, 0)) := at_new _ _
  have hb0 : Below w.heap.size w (w.alloc (Obj.cells Z 5)) := (Below.refl _ _).alloc (Nat.le_refl _) _
  generalize w.alloc (Obj.cells Z 5) = W0 at *
  have HZ := Lib.hid hz
  have HB0 := Lib.hid hb0
  have HZS := Lib.hid hZ
  have HLT := Lib.hid hlt
  clear hz hb0 hZ hlt
  go_enter Tryd.func19, Tryd.ntmps19
  go_wp2
  clear hmk
  go_loopw [0, 6] (fun vu vi wr => ∃ (u m : Nat) (cs : Array Value) (L : Bytes), vu = .int .u64 u ∧ vi = .int .i64 ((m : Int) - 1) ∧ m ≤ 16 ∧ u < 18446744073709551616 ∧ wr.heap[w.heap.size]? = some (.cells cs 5 (0, 0)) ∧ cs.size = 16 ∧ Hid (Below w.heap.size w wr ∧ hexN 16 n = hexN m u ++ L ∧ L.length + m = 16 ∧ cs.toList.drop m = L.map (fun b => Value.int .u8 (b.toNat : Int)))) (fun vu vi _ => (intOf vi + 1).toNat)
  case atStart => exact ⟨n, 16, Z, [], rfl, rfl, by omega, HLT.out, HZ.out, HZS.out, Lib.hid ⟨HB0.out, by simp, rfl, by rw [List.drop_of_length_le (by rw [Array.length_toList, HZS.out]; omega)]; rfl⟩⟩
  case round =>
    obtain ⟨u, m, cs, L, rfl, rfl, hm1, hlt, hcs, hsz, hh⟩ := hrel
    have HC := Lib.hid hcs
    have HS := Lib.hid hsz
    have HL := Lib.hid hlt
    by_cases hm : m = 0
    · subst hm
      have hlist : cs.toList = (hexN 16 n).map (fun b => Value.int .u8 (b.toNat : Int)) := by
        have := hh.out.2.2.2
        rw [hh.out.2.1]; exact this
      have hcv : (convert 30 9 (.slice (some ⟨w.heap.size, 0, none⟩) 16 16)).run Tryd.prog wr = .ok (.string ⟨(hexN 16 n).toArray⟩) wr := by
        have h := run_convert_bytes_back (P := Tryd.prog) wr 30 9 5 ⟨w.heap.size, 0, none⟩ 16 (hexN 16 n) Tryd.underlying30 Tryd.underlying5 Tryd.underlying9 (fun j hj => by
          rw [add_plain, heap_cell HC.out (0 + j)]
          have h1 := congrArg (fun l : List Value => l[j]?) hlist
          simp only [List.getElem?_map, List.getElem?_eq_getElem hj, Option.map_some, Array.getElem?_toList] at h1
          rw [Nat.zero_add]; exact h1)
        rw [hexN_len] at h
        exact h
      clear hcs hsz hlt hlist
      go_wp2
      go_ret
      exact ⟨⟨(hexN 16 n).toArray⟩, by simp, rfl, hh.out.1⟩
    · have i1 : ((m : Int) - 1).toNat = m - 1 := by omega
      have i2 : m - 1 < cs.size := by omega
      have i3 : (0 : Int) ≤ (m : Int) - 1 := by omega
      have i4 : (1 : Int) ≤ m := by omega
      have c1 := heap_cell hcs (m - 1)
      rw [Array.getElem?_eq_getElem i2] at c1
      have c2 := heap_free hcs (m - 1)
      generalize cs[m - 1] = old at c1
      have h15 : bits .and .u64 (u : Int) 15 = ((u % 16 : Nat) : Int) := by
        have := bits_mask .u64 64 (by decide) (fun n h0 h1 => by rw [IntKind.wrap_u64]; omega) 4 (by decide) (u : Int) (by omega) (by omega)
        simp at this
        rw [this]; omega
      have hr : u % 16 < 16 := Nat.mod_lt _ (by decide)
      obtain ⟨q, hq⟩ : ∃ q, u % 16 = q := ⟨_, rfl⟩
      rw [hq] at h15 hr
      have HQ := Lib.hid hq
      have hr3 : (q : Int) < 16 := by omega
      clear hq hcs hsz hlt
      go_wp2
      go_roundw
      case rel =>
        rw [rdigs q hr]
        refine ⟨u / 16, m - 1, _, dig q :: L, by rw [show ((u / 16 : Nat) : Int) = (u : Int) / 16 by omega], ?_, by omega, by have := HL.out; omega, set_same HC.out _, by rw [Array.size_setIfInBounds]; exact HS.out, Lib.hid ⟨hh.out.1.setCell (Nat.le_refl _) _, ?_, ?_, ?_⟩⟩
        · rw [show ((m - 1 : Nat) : Int) = (m : Int) - 1 by omega]
        · rw [hh.out.2.1]
          obtain ⟨m', rfl⟩ : ∃ m', m = m' + 1 := ⟨m - 1, by omega⟩
          rw [hexN, HQ.out, List.append_assoc]; rfl
        · rw [List.length_cons]; have := hh.out.2.2.1; omega
        · exact drop_set (by omega) (by have := HS.out; omega) hh.out.2.2.2
      case measure => simp [intOf]; omega

set_option maxHeartbeats 1000000 in
theorem rfield_any (n : Int) (p : ByteArray) (w : World) (hp : p.size ≤ 2000) :
    Calls Tryd.prog 13 #[.int .i64 n, .string p] w fun e w' => ∃ s : ByteArray, s.data.toList = FS n p ∧ e = .returned (.string s) ∧ Below w.heap.size w w' := by
  obtain ⟨h16, h17⟩ := sl_cast n
  have hw16 : bits .and .i64 n 65535 = (sl n : Int) := by rw [and16, h16]
  have hw64 : IntKind.u64.wrap (sl n : Int) = (sl n : Int) := by rw [IntKind.wrap_u64]; omega
  have hF : FS n p = hexN 4 (sl n) ++ 36 :: hexN 16 (mixS (sl n) p.data.toList) := rfl
  obtain ⟨hm1, hm2⟩ := mix_cast (sl n) p.data.toList
  rw [← h16] at hm1
  have HM := Lib.hid hm1
  have HM2 := Lib.hid hm2
  have HF := Lib.hid hF
  have H16 := Lib.hid h16
  clear hm1 hm2 hF h16
  generalize FS n p = F at *
  generalize mixS (sl n) p.data.toList = M at *
  generalize sl n = S at *
  go_enter Tryd.func13, Tryd.ntmps13
  go_wp2_with fail
  refine (rdigits_4 S (by omega) _).mono ?_
  rintro e w1 ⟨s1, hs1, rfl, hb1⟩
  have hz1 : s1.size = 4 := by have := congrArg List.length hs1; rw [hexN_len] at this; simpa using this
  have HS1 := Lib.hid hs1
  have HB1 := Lib.hid hb1
  clear hs1 hb1
  go_wp2_with fail
  refine (rmix_any n p _ hp).mono ?_
  rintro e w2 ⟨rfl, rfl⟩
  rw [HM.out]
  go_wp2_with fail
  refine (rdigits_16 M (by have := HM2.out; omega) _).mono ?_
  rintro e w3 ⟨s2, hs2, rfl, hb2⟩
  have hz2 : s2.size = 16 := by have := congrArg List.length hs2; rw [hexN_len] at this; simpa using this
  have HS2 := Lib.hid hs2
  have HB2 := Lib.hid (HB1.out.trans (hb2.mono HB1.out.size))
  clear hs2 hb2
  go_wp2
  go_ret
  refine ⟨_, ?_, rfl, HB2.out⟩
  rw [HF.out, ByteArray.data_append, ByteArray.data_append, Array.toList_append, Array.toList_append, HS1.out, HS2.out]
  simp

end Go.Proofs.YtkdjddmjcbdhgaaDoor
