import Derived.Test.YtinmdegmnepheaaDoorH
import Derived.Test.YtinmdegmnepheaaDoorF
namespace Go.Proofs.YtinmdegmnepheaaDoor
open Go.RowKit

theorem and_mask (x : Int) (m : Nat) (hm : m < 9223372036854775808) : ∃ n : Nat, bits .and .i64 x (m : Int) = (n : Int) ∧ n ≤ m := by
  have h2 : (BitVec.ofInt 64 (m : Int)).toNat = m := by
    rw [BitVec.ofInt_natCast, BitVec.toNat_ofNat]; exact Nat.mod_eq_of_lt (by omega)
  have hle : (BitVec.ofInt 64 x &&& BitVec.ofInt 64 (m : Int)).toNat ≤ m := by
    rw [BitVec.toNat_and, h2]; exact Nat.and_le_right
  refine ⟨(BitVec.ofInt 64 x &&& BitVec.ofInt 64 (m : Int)).toNat, ?_, hle⟩
  show IntKind.i64.wrap ((BitVec.ofInt 64 x &&& BitVec.ofInt 64 (m : Int)).toNat : Int) = _
  rw [IntKind.wrap_i64]
  omega

/-- A stroke and n times 'n', m times over. -/
def tl (n : Nat) : Nat → Bytes
  | 0 => []
  | m + 1 => tl n m ++ 47 :: List.replicate n 110
theorem tl_len (n : Nat) : ∀ m, (tl n m).length = m * (n + 1)
  | 0 => by simp [tl]
  | m + 1 => by simp [tl, tl_len n m, Nat.succ_mul]
theorem tl_front (n : Nat) : ∀ m, tl n (m + 1) = 47 :: List.replicate n 110 ++ tl n m
  | 0 => by simp [tl]
  | m + 1 => by
    have h : tl n (m + 1 + 1) = tl n (m + 1) ++ 47 :: List.replicate n 110 := rfl
    have h2 : tl n (m + 1) = tl n m ++ 47 :: List.replicate n 110 := rfl
    rw [h]; conv => lhs; rw [tl_front n m]
    rw [h2]; simp
theorem rep_no (n : Nat) : (47 : UInt8) ∉ List.replicate n (110 : UInt8) := fun h => by
  have := List.eq_of_mem_replicate h; exact absurd this (by decide)
theorem tl_parts (n : Nat) (hn : 1 ≤ n) : ∀ m, parts (tl n m) = List.replicate m (List.replicate n 110)
  | 0 => rfl
  | m + 1 => by
    have h0 : ¬ List.replicate n (110 : UInt8) = [] := by simp; omega
    have ih := tl_parts n hn m
    have e : parts (47 :: List.replicate n 110 ++ tl n m) = parts (List.replicate n 110 ++ tl n m) := by
      have := parts_cut [] (List.replicate n 110 ++ tl n m) (by simp)
      simpa using this
    rw [tl_front, e, List.replicate_succ]
    cases m with
    | zero => simp only [tl, List.append_nil]; rw [parts_end _ (rep_no n), if_neg h0]; rfl
    | succ m =>
      rw [tl_front] at ih ⊢
      rw [List.cons_append, parts_cut _ _ (rep_no n), if_neg h0, List.singleton_append]
      congr 1
theorem tl_ok (n : Nat) : ∀ m, (tl n m).all okb = true
  | 0 => rfl
  | m + 1 => by
    simp only [tl, List.all_append, tl_ok n m, List.all_cons, Bool.true_and]
    rw [Bool.and_eq_true]
    exact ⟨by decide, by simp [List.all_eq_true, okb]⟩
theorem tl_last (n m : Nat) (hn : 1 ≤ n) : Lib.hasSuffix (tl n (m + 1)) [47] = false := by
  rw [Bool.eq_false_iff]
  intro e
  simp only [Lib.hasSuffix, List.isSuffixOf_iff_suffix] at e
  obtain ⟨t, ht⟩ := e
  have h1 := congrArg List.getLast? ht
  obtain ⟨k, rfl⟩ : ∃ k, n = k + 1 := ⟨n - 1, by omega⟩
  rw [tl, List.replicate_succ', ← List.cons_append, ← List.append_assoc, List.getLast?_append, List.getLast?_append] at h1
  simp at h1
theorem tl_split (n m : Nat) (hn : 1 ≤ n) (hm : 1 ≤ m) :
    splitS (tl n m) = if 128 < m * (n + 1) ∨ 14 < n then (false, false, [], 10) else (true, false, List.replicate m (List.replicate n 110), 0) := by
  obtain ⟨k, rfl⟩ : ∃ k, m = k + 1 := ⟨m - 1, by omega⟩
  have h0 : ¬ tl n (k + 1) = [] := by rw [tl_front]; simp
  have hp := tl_parts n hn (k + 1)
  have hiff : (128 < (tl n (k + 1)).length ∨ ∃ x ∈ parts (tl n (k + 1)), 14 < x.length) ↔ (128 < (k + 1) * (n + 1) ∨ 14 < n) := by
    rw [hp, tl_len]
    constructor
    · rintro (h | ⟨x, hx, h⟩)
      · exact .inl h
      · rw [List.eq_of_mem_replicate hx] at h; simp at h; exact .inr h
    · rintro (h | h)
      · exact .inl h
      · exact .inr ⟨List.replicate n 110, by simp, by simpa using h⟩
  by_cases hc : 128 < (k + 1) * (n + 1) ∨ 14 < n
  · rw [if_pos hc]; exact split_long h0 (hiff.2 hc)
  · rw [if_neg hc, splitS, if_neg h0, if_neg (fun h => hc (hiff.1 h)), if_neg (by rw [tl_ok]; simp), hp, tl_last n k hn]
    have hpre : Lib.hasPrefix (tl n (k + 1)) [47] = true := by rw [tl_front]; simp [Lib.hasPrefix]
    have hl : (List.replicate (k + 1) (List.replicate n (110 : UInt8))).getLast?.getD [] = List.replicate n 110 := by
      rw [List.replicate_succ']; simp
    have hd : ∀ l : Bytes, (110 : UInt8) ∉ l → ¬ List.replicate n (110 : UInt8) = l := fun l h e => by
      obtain ⟨k, rfl⟩ : ∃ k, n = k + 1 := ⟨n - 1, by omega⟩
      rw [← e] at h; simp at h
    have hf : (List.replicate (k + 1) (List.replicate n (110 : UInt8))).filter (fun x => decide (¬ x = [46])) = List.replicate (k + 1) (List.replicate n 110) := by
      rw [List.filter_eq_self]
      intro x hx
      rw [List.eq_of_mem_replicate hx]
      simpa using hd [46] (by decide)
    rw [hpre, hl, hf]
    have h1 : (List.replicate n (110 : UInt8) == [46]) = false := by rw [beq_eq_false_iff_ne]; exact hd _ (by decide)
    have h2 : (List.replicate n (110 : UInt8) == [46, 46]) = false := by rw [beq_eq_false_iff_ne]; exact hd _ (by decide)
    rw [h1, h2]; rfl

set_option maxHeartbeats 1000000 in
theorem long_law (many size : Int) (w : World) :
    Calls Tryd.prog 9 #[.int .i64 many, .int .i64 size] w fun e w' => e = .returned (.bool true) ∧ Below w.heap.size w w' := by
  obtain ⟨m, hm, hm6⟩ : ∃ n : Nat, bits .and .i64 many 63 = n ∧ n ≤ 63 := and_mask many 63 (by omega)
  obtain ⟨n, hn, hn5⟩ : ∃ n : Nat, bits .and .i64 size 31 = n ∧ n ≤ 31 := and_mask size 31 (by omega)
  go_enter Tryd.func9, Tryd.ntmps9
  go_wp2_with fail
  refine (shown_any w).mono ?_
  rintro e w1 ⟨rfl, hb⟩
  have HB := Lib.hid hb
  clear hb
  go_wp2
  go_loopw [6, 7, 8] (fun t i k wr => ∃ (j : Nat) (s : ByteArray), j ≤ m + 1 ∧ i = .int .i64 j ∧ t = .string s ∧ s.data.toList = tl (n + 1) j ∧ ∃ z, wr = w1.drewN z) (fun t i k _ => (m + 1) - (intOf i).toNat)
  case atStart => exact ⟨0, ⟨#[]⟩, Nat.zero_le _, rfl, rfl, rfl, 0, rfl⟩
  case round =>
    obtain ⟨j, s, hj, rfl, rfl, hs, z, rfl⟩ := hrel
    have hsz : s.size = j * (n + 1 + 1) := by rw [← sz, hs, tl_len]
    by_cases hlt : j < m + 1
    · have hlt1 : (j : Int) < 1 + m := by omega
      have hszb : s.size ≤ 64 * 33 := by rw [hsz]; exact Nat.mul_le_mul (by omega) (by omega)
      have HS := Lib.hid hs
      clear hs hsz
      go_wp2
      go_loopw [6, 8] (fun t k wr => ∃ (q : Nat) (u : ByteArray), q ≤ n + 1 ∧ k = .int .i64 q ∧ t = .string u ∧ u.data.toList = tl (n + 1) j ++ 47 :: List.replicate q 110 ∧ ∃ z, wr = w1.drewN z) (fun t k _ => (n + 1) - (intOf k).toNat)
      case atStart => exact ⟨0, _, Nat.zero_le _, rfl, rfl, by rw [ByteArray.data_append, Array.toList_append, HS.out]; rfl, z, rfl⟩
      case round =>
        obtain ⟨q, u, hq, rfl, rfl, hu, z, rfl⟩ := hrel
        by_cases hqt : q < n + 1
        · have hqt1 : (q : Int) < 1 + n := by omega
          have hub : u.size ≤ 64 * 33 + 40 := by rw [← sz, hu]; simp; rw [← HS.out, sz]; omega
          have HU := Lib.hid hu
          clear hu
          go_wp2
          go_roundw
          case rel => exact ⟨q + 1, _, by omega, by go_num, rfl, by rw [ByteArray.data_append, Array.toList_append, HU.out, List.replicate_succ']; simp, z, rfl⟩
          case measure => simp [intOf]; omega
        · have hqt1 : ¬ (q : Int) < 1 + n := by omega
          obtain rfl : q = n + 1 := by omega
          have HU := Lib.hid hu
          clear hu
          go_wp2
          go_roundw
          case rel => exact ⟨j + 1, u, by omega, by go_num, rfl, HU.out, z, rfl⟩
          case measure => simp [intOf]; omega
    · obtain rfl : j = m + 1 := by omega
      have hlt1 : ¬ ((m + 1 : Nat) : Int) < 1 + m := by omega
      have hszb : s.size ≤ 64 * 33 := by rw [hsz]; exact Nat.mul_le_mul (by omega) (by omega)
      go_wp2_with fail
      refine (split_any _ _ (by omega)).mono ?_
      rintro e w2 ⟨abs, dir, v, l, err, rfl, ho, hb2, hsp⟩
      have HB2 := Lib.hid (Below.trans (belowN HB.out z) (hb2.mono (belowN HB.out z).size))
      have HZ := Lib.hid hb2.size
      have HW := Lib.hid (belowN HB.out z).size
      obtain ⟨a, cap, rfl, hcells⟩ := Sl.of_own ho
      clear ho hb2 hcells
      rw [hs, tl_split _ _ (by omega) (by omega), ← hsz] at hsp
      clear hsz hs
      by_cases hc : 128 < s.size ∨ 14 < n + 1
      · rw [if_pos hc] at hsp
        simp only [Prod.mk.injEq] at hsp
        obtain ⟨rfl, rfl, hl, rfl⟩ := hsp
        obtain rfl : l = [] := List.map_eq_nil_iff.1 hl.symm
        by_cases hc1 : 128 < s.size
        · have hc2 : (128 : Int) < s.size := by omega
          clear hc
          go_wp2
          go_ret
          exact ⟨rfl, HB2.out.alloc (Nat.le_trans HW.out HZ.out) _⟩
        · have hc2 : ¬ (128 : Int) < s.size := by omega
          have hc3 : (14 : Int) < 1 + n := by omega
          clear hc
          go_wp2
          go_ret
          exact ⟨rfl, HB2.out.alloc (Nat.le_trans HW.out HZ.out) _⟩
      · rw [if_neg hc] at hsp
        simp only [Prod.mk.injEq] at hsp
        obtain ⟨rfl, rfl, hl, rfl⟩ := hsp
        have hll : l.length = m + 1 := by have := congrArg List.length hl; simpa using this.symm
        have hc2 : ¬ (128 : Int) < s.size := by omega
        have hc3 : ¬ (14 : Int) < 1 + n := by omega
        have hc4 : (l.length : Int) = 1 + m := by omega
        clear hc hl hll
        go_wp2
        go_ret
        exact ⟨rfl, HB2.out.alloc (Nat.le_trans HW.out HZ.out) _⟩
end Go.Proofs.YtinmdegmnepheaaDoor
