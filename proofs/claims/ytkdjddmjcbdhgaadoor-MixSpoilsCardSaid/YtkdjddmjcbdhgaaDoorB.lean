/- FormatUint at base 16, and the digits of a field. -/
import Derived.Test.YtkdjddmjcbdhgaaDoorShelf
import Derived.Test.YtkdjddmjcbdhgaaDoorPlain
import Derived.WalkKit
import Derived.Lib.Hide
import Derived.Laws.BitsLemmas
import Derived.Laws.IdiomStrings
namespace Go.Proofs.YtkdjddmjcbdhgaaDoor
open Go.RowKit

theorem heap_cell {w : World} {b : Nat} {C : Array Value} {T : TypeId} {f : Nat × Nat} (h : w.heap[b]? = some (.cells C T f)) (i : Nat) : w.cell? ⟨b, i, none⟩ = C[i]? := by simp [World.cell?, h]
theorem heap_free {w : World} {b : Nat} {C : Array Value} {T : TypeId} (h : w.heap[b]? = some (.cells C T (0, 0))) (i : Nat) : w.frozen? ⟨b, i, none⟩ = false := by simp [World.frozen?, h]
theorem set_same {w : World} {b i : Nat} {C : Array Value} {T : TypeId} {f : Nat × Nat} (h : w.heap[b]? = some (.cells C T f)) (v : Value) : (w.setCell ⟨b, i, none⟩ v).heap[b]? = some (.cells (C.setIfInBounds i v) T f) := by
  simp [World.setCell, Array.getElem?_modify, h]
theorem at_new (w : World) (o : Obj) : (w.alloc o).heap[w.heap.size]? = some o := by
  show (w.heap.push o)[w.heap.size]? = some o
  simp

theorem drop_set {cs : Array Value} {m : Nat} {c : UInt8} {L : Bytes} (h0 : 0 < m) (h1 : m - 1 < cs.size) (h : cs.toList.drop m = L.map (fun b => Value.int .u8 (b.toNat : Int))) :
    (cs.setIfInBounds (m - 1) (.int .u8 c.toNat)).toList.drop (m - 1) = (c :: L).map (fun b => Value.int .u8 (b.toNat : Int)) := by
  rw [Array.toList_setIfInBounds]
  have hl : m - 1 < (cs.toList.set (m - 1) (.int .u8 c.toNat)).length := by rw [List.length_set]; simpa using h1
  rw [List.drop_eq_getElem_cons hl, List.getElem_set_self, show m - 1 + 1 = m by omega, List.drop_set_of_lt (by omega), h]
  rfl
theorem add_plain (b o j : Nat) : (⟨b, o, none⟩ : Addr).add j = ⟨b, o + j, none⟩ := by
  cases j <;> rfl
theorem al90 : Tryd.prog.arrayLen 90 = 65 := by kernel_rfl
theorem digs0 : ∀ j : Fin 16, (⟨#[48, 49, 50, 51, 52, 53, 54, 55, 56, 57, 97, 98, 99, 100, 101, 102, 103, 104, 105, 106, 107, 108, 109, 110, 111, 112, 113, 114, 115, 116, 117, 118, 119, 120, 121, 122]⟩ : ByteArray)[j.val]'(by have := j.isLt; show j.val < 36; omega) = dig j.val := by decide
theorem digs (q : Nat) (h : q < 16) (h2 : q < (⟨#[48, 49, 50, 51, 52, 53, 54, 55, 56, 57, 97, 98, 99, 100, 101, 102, 103, 104, 105, 106, 107, 108, 109, 110, 111, 112, 113, 114, 115, 116, 117, 118, 119, 120, 121, 122]⟩ : ByteArray).size) : (⟨#[48, 49, 50, 51, 52, 53, 54, 55, 56, 57, 97, 98, 99, 100, 101, 102, 103, 104, 105, 106, 107, 108, 109, 110, 111, 112, 113, 114, 115, 116, 117, 118, 119, 120, 121, 122]⟩ : ByteArray)[q] = dig q := digs0 ⟨q, h⟩

theorem rep_one : ∀ n, Lib.repeatL [48] n = List.replicate n (48 : UInt8)
  | 0 => rfl
  | n + 1 => by
    rw [List.replicate_succ, ← rep_one n]; rfl
theorem two_any (w : World) : Calls Tryd.prog 68 #[.int .i64 16] w fun e w' => e = .returned (.bool true) ∧ w' = w := by
  have h : bits .and .i64 16 15 = 0 := by decide
  go_enter Tryd.func68, Tryd.ntmps68
  go_wp2
  go_ret
  exact ⟨rfl, rfl⟩
theorem tz64_any (w : World) (hT : w.cell? ⟨7, 15, none⟩ = some (.int .u8 4)) : Calls Tryd.prog 83 #[.int .u64 16] w fun e w' => e = .returned (.int .i64 4) ∧ w' = w := by
  have h1 : bits .and .u64 16 (IntKind.u64.wrap (-16)) = 16 := by decide
  have h2 : IntKind.u64.wrap (16 * 285870213051353865) / 288230376151711744 = 15 := by decide
  go_enter Tryd.func83, Tryd.ntmps83
  go_wp2
  go_ret
  exact ⟨rfl, rfl⟩
theorem tz_any (w : World) (hT : w.cell? ⟨7, 15, none⟩ = some (.int .u8 4)) : Calls Tryd.prog 69 #[.int .u64 16] w fun e w' => e = .returned (.int .i64 4) ∧ w' = w := by
  go_enter Tryd.func69, Tryd.ntmps69
  go_wp2_with fail
  refine (tz64_any _ hT).mono ?_
  rintro e w' ⟨rfl, rfl⟩
  go_wp2
  go_ret
  exact ⟨rfl, rfl⟩

set_option maxHeartbeats 1000000 in
set_option maxRecDepth 100000 in
theorem fb_any (n : Nat) (hn : n < 18446744073709551616) (w : World) (hT : w.cell? ⟨7, 15, none⟩ = some (.int .u8 4)) :
    Calls Tryd.prog 48 #[.slice none 0 0, .int .u64 n, .int .i64 16, .bool false, .bool false] w fun e w' =>
      ∃ s : ByteArray, s.data.toList = hexD n ∧ e = .returned (.tuple #[.slice none 0 0, .string s]) ∧ Below w.heap.size w w' := by
  go_enter Tryd.func48, Tryd.ntmps48
  go_wp2_with fail
  refine (two_any _).mono ?_
  rintro e w' ⟨rfl, rfl⟩
  go_wp2_with fail
  have hz : (w.alloc (Obj.cells Tryd.zeroCells90 90)).heap[w.heap.size]? = some (.cells Tryd.zeroCells90 90 (0, 0)) := at_new _ _
  have hT1 : (w.alloc (Obj.cells Tryd.zeroCells90 90)).cell? ⟨7, 15, none⟩ = some (.int .u8 4) := by
    rw [((Below.refl w.heap.size w).alloc (Nat.le_refl _) _).cell (p := ⟨7, 15, none⟩) (World.block_lt_of_cell? w ⟨7, 15, none⟩ hT)]; exact hT
  have hb0 : Below w.heap.size w (w.alloc (Obj.cells Tryd.zeroCells90 90)) := (Below.refl _ _).alloc (Nat.le_refl _) _
  have hzs : Tryd.zeroCells90.size = 65 := by kernel_rfl
  refine (tz_any _ hT1).mono ?_
  rintro e w' ⟨rfl, rfl⟩
  generalize w.alloc (Obj.cells Tryd.zeroCells90 90) = W0 at *
  generalize Tryd.zeroCells90 = Z at *
  have HZ := Lib.hid hz
  have HB0 := Lib.hid hb0
  have HZS := Lib.hid hzs
  clear hz hb0 hzs hT1
  go_wp2
  go_loopw [1, 13] (fun vu vi wr => ∃ (u m : Nat) (cs : Array Value) (L : Bytes), vu = .int .u64 u ∧ vi = .int .i64 m ∧ 50 ≤ m ∧ m ≤ 65 ∧ u < 16 ^ (m - 49) ∧ wr.heap[w.heap.size]? = some (.cells cs 90 (0, 0)) ∧ cs.size = 65 ∧ Hid (Below w.heap.size w wr ∧ hexD n = hexD u ++ L ∧ L.length + m = 65 ∧ cs.toList.drop m = L.map (fun b => Value.int .u8 (b.toNat : Int)))) (fun vu vi _ => (intOf vi).toNat)
  case atStart => exact ⟨n, 65, Z, [], rfl, rfl, by omega, by omega, by simpa using hn, HZ.out, HZS.out, Lib.hid ⟨HB0.out, by simp, rfl, by rw [List.drop_of_length_le (by rw [Array.length_toList, HZS.out]; omega)]; rfl⟩⟩
  case round =>
    obtain ⟨u, m, cs, L, rfl, rfl, hm0, hm1, hlt, hcs, hsz, hh⟩ := hrel
    have i1 : ((m : Int) - 1).toNat = m - 1 := by omega
    have i2 : m - 1 < cs.size := by omega
    have c1 := heap_cell hcs (m - 1)
    rw [Array.getElem?_eq_getElem i2] at c1
    have c2 := heap_free hcs (m - 1)
    have HC := Lib.hid hcs
    have HS := Lib.hid hsz
    have HL := Lib.hid hlt
    generalize cs[m - 1] = old at c1
    clear hcs hsz hlt
    by_cases hu : u < 16
    · have hu1 : ¬ (16 : Int) ≤ u := by omega
      have hu2 : (u : Int) < 36 := by omega
      have hu3 : u < 36 := by omega
      have HU := Lib.hid hu
      clear hu
      go_upto_region 30 with fail
      rw [digs u HU.out]
      have hc5 : (wr.setCell ⟨w.heap.size, m - 1, none⟩ (.int .u8 (dig u).toNat)).heap[w.heap.size]? = some (.cells (cs.setIfInBounds (m - 1) (.int .u8 (dig u).toNat)) 90 (0, 0)) := set_same HC.out _
      have hb5 : Below w.heap.size w (wr.setCell ⟨w.heap.size, m - 1, none⟩ (.int .u8 (dig u).toNat)) := hh.out.1.setCell (Nat.le_refl _) _
      generalize wr.setCell ⟨w.heap.size, m - 1, none⟩ (.int .u8 (dig u).toNat) = W5 at *
      have hL : hexD n = dig u :: L := by rw [hh.out.2.1, hexD, if_pos HU.out]; rfl
      have hlen : L.length + 1 = 66 - m := by have := hh.out.2.2.1; omega
      have hlist : (cs.setIfInBounds (m - 1) (.int .u8 (dig u).toNat)).toList.drop (m - 1) = (hexD n).map (fun b => Value.int .u8 (b.toNat : Int)) := by
        rw [hL]; exact drop_set (by omega) (by have := HS.out; omega) hh.out.2.2.2
      have hsl : ∀ W, (Instr.sliceAt 90 (.pointer (some ⟨w.heap.size, 0, none⟩)) (some (.int .i64 ((m : Int) - 1))) none none).run Tryd.prog W = .ok (.slice (some ⟨w.heap.size, m - 1, none⟩) (66 - m) (66 - m)) W := fun W => by
        rw [run_sliceAt_array_l W 90 ⟨w.heap.size, 0, none⟩ (by kernel_rfl) .i64 ((m : Int) - 1) (by omega) (by rw [al90]; omega), al90]
        go_simp
        omega
      have hcv : (convert 30 9 (.slice (some ⟨w.heap.size, m - 1, none⟩) (66 - m) (66 - m))).run Tryd.prog W5 = .ok (.string ⟨(hexD n).toArray⟩) W5 := by
        have h := run_convert_bytes_back (P := Tryd.prog) W5 30 9 5 ⟨w.heap.size, m - 1, none⟩ (66 - m) (hexD n) Tryd.underlying30 Tryd.underlying5 Tryd.underlying9 (fun j hj => by
          rw [add_plain, heap_cell hc5 (m - 1 + j)]
          have h1 := congrArg (fun l : List Value => l[j]?) hlist
          simp only [List.getElem?_drop, List.getElem?_map, List.getElem?_eq_getElem hj, Option.map_some, Array.getElem?_toList] at h1
          exact h1)
        rw [show (hexD n).length = 66 - m by rw [hL, List.length_cons, hlen]] at h
        exact h
      go_wp2
      exact bodyPost_ret (v := .tuple #[.slice none 0 0, .string ⟨(dig u :: L).toArray⟩]) (by simp [results, Tryd.results48, go_sem]) rfl ⟨⟨(dig u :: L).toArray⟩, by simp, rfl, hb5⟩
    · have hu1 : (16 : Int) ≤ u := by omega
      have h15 : bits .and .u64 (u : Int) 15 = ((u % 16 : Nat) : Int) := by
        have := HL.out
        have h16 : 16 ^ (m - 49) ≤ 16 ^ 16 := Nat.pow_le_pow_right (by decide) (by omega)
        have := bits_mask .u64 64 (by decide) (fun n h0 h1 => by rw [IntKind.wrap_u64]; omega) 4 (by decide) (u : Int) (by omega) (by omega)
        simp at this
        rw [this]; omega
      have hr : u % 16 < 16 := Nat.mod_lt _ (by decide)
      obtain ⟨q, hq⟩ : ∃ q, u % 16 = q := ⟨_, rfl⟩
      rw [hq] at h15 hr
      have HQ := Lib.hid hq
      have hr3 : q < 36 := by omega
      clear hq
      go_wp2
      go_roundw
      case rel =>
        rw [digs q hr]
        refine ⟨u / 16, m - 1, _, dig q :: L, by rw [show ((u / 16 : Nat) : Int) = (u : Int) / 16 by omega], by rw [show ((m - 1 : Nat) : Int) = (m : Int) - 1 by omega], ?_, by omega, ?_, set_same HC.out _, by rw [Array.size_setIfInBounds]; exact HS.out, Lib.hid ⟨hh.out.1.setCell (Nat.le_refl _) _, ?_, ?_, ?_⟩⟩
        · rcases Nat.eq_or_lt_of_le hm0 with h | h
          · have := HL.out
            rw [← h] at this; simp at this; omega
          · omega
        · have h := HL.out
          rw [show m - 49 = (m - 1 - 49) + 1 by omega, Nat.pow_succ] at h
          rw [Nat.div_lt_iff_lt_mul (by decide)]; exact h
        · rw [hh.out.2.1, hexD, if_neg hu, HQ.out, List.append_assoc]; rfl
        · rw [List.length_cons]; have := hh.out.2.2.1; omega
        · exact drop_set (by omega) (by have := HS.out; omega) hh.out.2.2.2
      case measure => simp [intOf]; omega

theorem ifu_any (n : Nat) (hn : n < 18446744073709551616) (w : World) (hT : w.cell? ⟨7, 15, none⟩ = some (.int .u8 4)) :
    Calls Tryd.prog 28 #[.int .u64 n, .int .i64 16] w fun e w' => ∃ s : ByteArray, s.data.toList = hexD n ∧ e = .returned (.string s) ∧ Below w.heap.size w w' := by
  go_enter Tryd.func28, Tryd.ntmps28
  go_wp2_with fail
  refine (fb_any n hn _ hT).mono ?_
  rintro e w' ⟨s, hs, rfl, hb⟩
  have HS := Lib.hid hs
  have HB := Lib.hid hb
  clear hs hb
  go_wp2
  go_ret
  exact ⟨s, HS.out, rfl, HB.out⟩
theorem fu_any (n : Nat) (hn : n < 18446744073709551616) (w : World) (hT : w.cell? ⟨7, 15, none⟩ = some (.int .u8 4)) :
    Calls Tryd.prog 23 #[.int .u64 n, .int .i64 16] w fun e w' => ∃ s : ByteArray, s.data.toList = hexD n ∧ e = .returned (.string s) ∧ Below w.heap.size w w' := by
  go_enter Tryd.func23, Tryd.ntmps23
  go_wp2_with fail
  refine (ifu_any n hn _ hT).mono ?_
  rintro e w' ⟨s, hs, rfl, hb⟩
  have HS := Lib.hid hs
  have HB := Lib.hid hb
  clear hs hb
  go_wp2
  go_ret
  exact ⟨s, HS.out, rfl, HB.out⟩

/-- The digits of a number, as many as are wanted. -/
theorem digits_any (n k : Nat) (hk : 0 < k) (hk2 : k ≤ 16) (hn : n < 16 ^ k) (w : World) (hT : w.cell? ⟨7, 15, none⟩ = some (.int .u8 4)) :
    Calls Tryd.prog 18 #[.int .u64 n, .int .i64 k] w fun e w' => ∃ s : ByteArray, s.data.toList = hexN k n ∧ e = .returned (.string s) ∧ Below w.heap.size w w' := by
  have hn2 : n < 18446744073709551616 := Nat.lt_of_lt_of_le hn (by have : 16 ^ k ≤ 16 ^ 16 := Nat.pow_le_pow_right (by decide) hk2; omega)
  obtain ⟨hp1, hp2⟩ := hexD_pad k n hk hn
  have HP := Lib.hid hp2
  have HN := Lib.hid hn
  clear hp2 hn
  go_enter Tryd.func18, Tryd.ntmps18
  go_wp2_with fail
  refine (fu_any n hn2 _ hT).mono ?_
  rintro e w1 ⟨s, hs, rfl, hb⟩
  have hsz : s.size = (hexD n).length := by rw [← hs]; simp
  rw [← hsz] at hp1
  have i1 : (k : Int) - s.size = ((k - s.size : Nat) : Int) := by omega
  have i2 : IntKind.i64.wrap ((k : Int) - s.size) = ((k - s.size : Nat) : Int) := by rw [IntKind.wrap_i64]; omega
  have HS := Lib.hid hs
  have HB := Lib.hid hb
  have HZ := Lib.hid hsz
  clear hs hb hsz
  go_wp2_with fail
  refine (Tryd.strings_Repeat _ (k - s.size) _ (by omega) (by show 1 * (k - s.size) ≤ _; omega)).mono ?_
  rintro e w2 ⟨rfl, hb2⟩
  have HB2 := Lib.hid (HB.out.trans (hb2.mono HB.out.size))
  clear hb2
  obtain ⟨R, hR⟩ : ∃ R : ByteArray, (⟨(Lib.repeatL (⟨#[48]⟩ : ByteArray).data.toList (k - s.size)).toArray⟩ : ByteArray) = R := ⟨_, rfl⟩
  have hRl : R.data.toList = List.replicate (k - s.size) 48 := by
    rw [← hR]
    show Lib.repeatL [48] (k - s.size) = _
    exact rep_one _
  have hRs : R.size ≤ 16 := by
    have := congrArg List.length hRl
    simp at this; omega
  have HRL := Lib.hid hRl
  rw [hR]
  clear hR hRl
  go_wp2
  go_ret
  refine ⟨_, ?_, rfl, HB2.out⟩
  rw [ByteArray.data_append, Array.toList_append, HRL.out, HS.out, HZ.out, HP.out]
end Go.Proofs.YtkdjddmjcbdhgaaDoor
