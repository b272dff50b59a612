/- Mix of the program and of the document: one number. -/
import Derived.Test.YtkdjddmjcbdhgaaDoorProg
import Derived.Test.YtkdjddmjcbdhgaaDoorPlain
import Derived.WalkKit
import Derived.Lib.Hide
import Derived.Laws.BitsLemmas
namespace Go.Proofs.YtkdjddmjcbdhgaaDoor
open Go.RowKit

def mstep (y : Int) (c : UInt8) : Int := IntKind.u64.wrap (bits .xor .u64 y (IntKind.u64.wrap (c.toNat : Int)) * 1099511628211)
def mlast (y : Int) : Int := IntKind.u64.wrap (bits .xor .u64 y (y / 536870912) * 11400714819323198485)
def mround (p : Bytes) (h : Int) : Int := mlast (p.foldl mstep h)
def miter (p : Bytes) : Nat → Int → Int
  | 0, h => h
  | k + 1, h => mround p (miter p k h)
def mixZ (a : Int) (p : Bytes) : Int := miter p 64 (bits .xor .u64 14695981039346656037 (IntKind.u64.wrap a))
def mixS (a : Nat) (p : Bytes) : Nat := (mixZ a p).toNat
theorem mix_cast (a : Nat) (p : Bytes) : mixZ a p = (mixS a p : Int) ∧ mixS a p < 18446744073709551616 := by
  have h : 0 ≤ mixZ a p ∧ mixZ a p < 18446744073709551616 := by
    show 0 ≤ mlast _ ∧ mlast _ < _
    unfold mlast
    rw [IntKind.wrap_u64]
    omega
  unfold mixS
  omega
theorem fold_step (s : ByteArray) (j : Nat) (h : j < s.size) (x : Int) : (s.data.toList.take (j + 1)).foldl mstep x = mstep ((s.data.toList.take j).foldl mstep x) s[j] := by
  have hl : j < s.data.toList.length := by simpa using h
  have : s.data.toList.take (j + 1) = s.data.toList.take j ++ [s.data.toList[j]] := by rw [List.take_succ_eq_append_getElem hl]
  rw [this, List.foldl_append]
  rfl
theorem wrap16 (n : Int) : IntKind.u16.wrap n = n % 65536 := by simp [IntKind.wrap, IntKind.bits, IntKind.signed]
theorem and16 (n : Int) : bits .and .i64 n 65535 = n % 65536 := by
  have h127 : (BitVec.ofInt 64 65535).toNat = 2 ^ 16 - 1 := by decide
  have key : (BitVec.ofInt 64 n &&& BitVec.ofInt 64 65535).toNat = (n % ((2 ^ 64 : Nat) : Int)).toNat % 2 ^ 16 := by
    rw [BitVec.toNat_and, BitVec.toNat_ofInt, h127, Nat.and_two_pow_sub_one_eq_mod]
  show IntKind.i64.wrap ((BitVec.ofInt 64 n &&& BitVec.ofInt 64 65535).toNat : Nat) = n % 65536
  rw [key, IntKind.wrap_i64]
  omega

set_option maxHeartbeats 1000000 in
theorem mix_any (n : Int) (s : ByteArray) (w : World) (hs : s.size ≤ 2000) :
    Calls Tryd.prog 10 #[.int .i64 n, .string s] w fun e w' => e = .returned (.int .u64 (mixZ (n % 65536) s.data.toList)) ∧ w' = w := by
  have hs1 : (s.size : Int) ≤ 2000 := by omega
  have h16 := wrap16 n
  have h64 : IntKind.u64.wrap (n % 65536) = n % 65536 := by rw [IntKind.wrap_u64]; omega
  unfold mixZ
  rw [h64]
  obtain ⟨x0, hx0⟩ : ∃ x, bits .xor .u64 14695981039346656037 (n % 65536) = x := ⟨_, rfl⟩
  rw [hx0]
  go_enter Tryd.func10, Tryd.ntmps10
  go_wp2
  clear hx0
  go_loopw [5, 6, 11] (fun h u i wr => ∃ (k : Nat) (x : Int), k ≤ 64 ∧ i = .int .i64 k ∧ h = .int .u64 x ∧ x = miter s.data.toList k x0 ∧ wr = w) (fun h u i _ => 64 - (intOf i).toNat)
  case atStart => exact ⟨0, x0, by omega, rfl, rfl, rfl, rfl⟩
  case round =>
    obtain ⟨k, x, hk, rfl, rfl, hx, rfl⟩ := hrel
    have HX := Lib.hid hx
    clear hx
    by_cases hlt : k < 64
    · have hlt1 : (k : Int) < 64 := by omega
      go_wp2
      go_loopw [5, 6, 15] (fun h u i wx => ∃ (j : Nat) (y : Int), j ≤ s.size ∧ i = .int .i64 j ∧ h = .int .u64 y ∧ y = (s.data.toList.take j).foldl mstep x ∧ wx = wr) (fun h u i _ => s.size - (intOf i).toNat)
      case atStart => exact ⟨0, x, by omega, rfl, rfl, rfl, rfl⟩
      case round =>
        obtain ⟨j, y, hj, rfl, rfl, hy, rfl⟩ := hrel
        have HY := Lib.hid hy
        clear hy
        by_cases hjl : j < s.size
        · have hjl1 : (j : Int) < s.size := by omega
          go_wp2
          go_roundw
          case rel => exact ⟨j + 1, _, by omega, by go_num, rfl, by rw [fold_step s j hjl, ← HY.out]; rfl, trivial⟩
          case measure => simp [intOf]; omega
        · have hjl1 : ¬ (j : Int) < s.size := by omega
          go_wp2
          go_roundw
          case rel => exact ⟨k + 1, _, by omega, by go_num, rfl, by
            have hall : s.data.toList.take j = s.data.toList := List.take_of_length_le (by rw [Array.length_toList]; show s.size ≤ j; omega)
            show _ = mlast (s.data.toList.foldl mstep (miter s.data.toList k x0))
            rw [← HX.out, ← hall, ← HY.out]; rfl, trivial⟩
          case measure => simp [intOf]; omega
    · have hlt1 : ¬ (k : Int) < 64 := by omega
      obtain rfl : k = 64 := by omega
      go_wp2
      go_ret
      rw [HX.out]
      exact ⟨rfl, rfl⟩

set_option maxHeartbeats 1000000 in
theorem rmix_any (n : Int) (s : ByteArray) (w : World) (hs : s.size ≤ 2000) :
    Calls Tryd.prog 11 #[.int .i64 n, .string s] w fun e w' => e = .returned (.int .u64 (mixZ (n % 65536) s.data.toList)) ∧ w' = w := by
  have hs1 : (s.size : Int) ≤ 2000 := by omega
  have h16 := and16 n
  have h64 : IntKind.u64.wrap (n % 65536) = n % 65536 := by rw [IntKind.wrap_u64]; omega
  unfold mixZ
  rw [h64]
  obtain ⟨x0, hx0⟩ : ∃ x, bits .xor .u64 14695981039346656037 (n % 65536) = x := ⟨_, rfl⟩
  rw [hx0]
  go_enter Tryd.func11, Tryd.ntmps11
  go_wp2
  clear hx0
  go_loopw [5, 6, 7] (fun h i u wr => ∃ (k : Nat) (x : Int), k ≤ 64 ∧ i = .int .i64 k ∧ h = .int .u64 x ∧ x = miter s.data.toList k x0 ∧ wr = w) (fun h i u _ => 64 - (intOf i).toNat)
  case atStart => exact ⟨0, x0, by omega, rfl, rfl, rfl, rfl⟩
  case round =>
    obtain ⟨k, x, hk, rfl, rfl, hx, rfl⟩ := hrel
    have HX := Lib.hid hx
    clear hx
    by_cases hlt : k < 64
    · have hlt1 : (k : Int) < 64 := by omega
      go_wp2
      go_loopw [5, 7] (fun h i wx => ∃ (j : Nat) (y : Int), j ≤ s.size ∧ i = .int .i64 j ∧ h = .int .u64 y ∧ y = (s.data.toList.take j).foldl mstep x ∧ wx = wr) (fun h i _ => s.size - (intOf i).toNat)
      case atStart => exact ⟨0, x, by omega, rfl, rfl, rfl, rfl⟩
      case round =>
        obtain ⟨j, y, hj, rfl, rfl, hy, rfl⟩ := hrel
        have HY := Lib.hid hy
        clear hy
        by_cases hjl : j < s.size
        · have hjl1 : (j : Int) < s.size := by omega
          go_wp2
          go_roundw
          case rel => exact ⟨j + 1, _, by omega, by go_num, rfl, by rw [fold_step s j hjl, ← HY.out]; rfl, trivial⟩
          case measure => simp [intOf]; omega
        · have hjl1 : ¬ (j : Int) < s.size := by omega
          go_wp2
          go_roundw
          case rel => exact ⟨k + 1, _, by omega, by go_num, rfl, by
            have hall : s.data.toList.take j = s.data.toList := List.take_of_length_le (by rw [Array.length_toList]; show s.size ≤ j; omega)
            show _ = mlast (s.data.toList.foldl mstep (miter s.data.toList k x0))
            rw [← HX.out, ← hall, ← HY.out]; rfl, trivial⟩
          case measure => simp [intOf]; omega
    · have hlt1 : ¬ (k : Int) < 64 := by omega
      obtain rfl : k = 64 := by omega
      go_wp2
      go_ret
      rw [HX.out]
      exact ⟨rfl, rfl⟩
end Go.Proofs.YtkdjddmjcbdhgaaDoor
