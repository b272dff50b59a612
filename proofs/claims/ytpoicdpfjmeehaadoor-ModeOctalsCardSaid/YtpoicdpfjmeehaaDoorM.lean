/- ParseInt at base 8, of digits. -/
import Derived.Test.YtpoicdpfjmeehaaDoorG
import Derived.Lib.ConvBytes
namespace Go.Proofs.YtpoicdpfjmeehaaDoor
open Go.RowKit

def isOct (c : UInt8) : Bool := decide (48 ≤ c.toNat) && decide (c.toNat ≤ 55)
def readO (l : Bytes) : Nat := l.foldl (fun a c => 8 * a + (c.toNat - 48)) 0
theorem readO_app (l : Bytes) (c : UInt8) : readO (l ++ [c]) = 8 * readO l + (c.toNat - 48) := by simp [readO, List.foldl_append]
theorem bytes_below (w : World) (t : ByteArray) : Below w.heap.size w (Lib.bytesWorld w 5 t) := by
  exact ⟨rfl, rfl, rfl, by rw [Lib.bytesWorld_size]; omega, fun j hj => Lib.bytesWorld_at_old w 5 t j hj⟩

set_option maxHeartbeats 2000000 in
set_option maxRecDepth 100000 in
theorem ipu8_any (t : ByteArray) (ht0 : 0 < t.size) (ht5 : t.size ≤ 5) (hx : t.data.toList.all isOct = true) (w : World) :
    Calls Tryd.prog 51 #[.string t, .int .i64 8, .int .i64 32] w fun e w' => e = .returned (.tuple #[.int .u64 (readO t.data.toList), .nilIface]) ∧ Below w.heap.size w w' ∧ readO t.data.toList < 32768 := by
  have hemp : t.toList.isEmpty = false := by
    rw [← decide_eq_emptyBytes]
    exact decide_eq_false (fun h => by rw [h] at ht0; exact absurd ht0 (by decide))
  have hcv := Lib.run_convert_string_bytes (P := Tryd.prog) w 9 36 5 t (u := .string) Tryd.underlying9 Tryd.underlying36 Tryd.underlying5
  have hB : ∀ j, j < t.size → (Lib.bytesWorld w 5 t).cell? ⟨w.heap.size, j, none⟩ = some (.int .u8 (t.data.toList.getD j 0).toNat) := fun j hj => Lib.bytesWorld_cell w 5 t j hj
  have hbel : Below w.heap.size w (Lib.bytesWorld w 5 t) := bytes_below w t
  have hmv : IntKind.u64.wrap (IntKind.u64.wrap 4294967296 - 1) = 4294967295 := by
    rw [IntKind.wrap_u64, IntKind.wrap_u64]
    decide
  obtain ⟨W1, hW1⟩ : ∃ W1, W1 = Lib.bytesWorld w 5 t := ⟨_, rfl⟩
  rw [← hW1] at hcv hB hbel
  clear hW1
  obtain ⟨bs, hL⟩ : ∃ bs, bs = t.data.toList := ⟨_, rfl⟩
  have hLn : bs.length = t.size := by rw [hL]; simp
  rw [← hL] at hB hx
  rw [← hL]
  clear hL
  have HB := Lib.hid hB
  have HX := Lib.hid hx
  have HBEL := Lib.hid hbel
  clear hB hx hbel
  have HT5 := Lib.hid ht5
  have HLN := Lib.hid hLn
  have hti : (t.size : Int) ≤ 5 := by omega
  clear ht0 ht5 hLn
  go_enter Tryd.func51, Tryd.ntmps51
  go_wp2
  go_loopw [12, 13, 15, 16, 17, 101] (fun vu vn vc vd v1 vi wr => ∃ (k acc : Nat) (a : Int), vu = .bool false ∧ vn = .int .u64 a ∧ vi = .int .i64 k ∧ k ≤ t.size ∧ wr = W1 ∧ Hid (a = (acc : Int) ∧ acc = readO (bs.take k) ∧ acc < 8 ^ k)) (fun vu vn vc vd v1 vi _ => t.size - (intOf vi).toNat)
  case atStart => exact ⟨0, 0, 0, rfl, rfl, rfl, by omega, rfl, Lib.hid ⟨rfl, rfl, by decide⟩⟩
  case round =>
    obtain ⟨k, acc, a, rfl, rfl, rfl, hk, rfl, HA⟩ := hrel
    by_cases hkn : k < t.size
    · have hk1 : (k : Int) < t.size := by omega
      have hc := HB.out k hkn
      have hlk : k < bs.length := by rw [HLN.out]; exact hkn
      have hget : bs.getD k 0 = bs[k]'hlk := by simp [List.getD, List.getElem?_eq_getElem hlk]
      rw [hget] at hc
      have htk : bs.take (k + 1) = bs.take k ++ [bs[k]'hlk] := by rw [List.take_succ_eq_append_getElem hlk]
      have hhx : isOct (bs[k]'hlk) = true := List.all_eq_true.1 HX.out _ (List.getElem_mem _)
      generalize bs[k]'hlk = c at hc htk hhx
      have hcb : 48 ≤ c.toNat ∧ c.toNat ≤ 55 := by unfold isOct at hhx; simpa using hhx
      have hacc3 : acc < 4096 := by
        have h16 : 8 ^ k ≤ 8 ^ 4 := Nat.pow_le_pow_right (by decide) (by have := HT5.out; omega)
        have := HA.out.2.2
        omega
      have hnext : acc * 8 + (c.toNat - 48) = readO (bs.take (k + 1)) := by rw [htk, readO_app, ← HA.out.2.1]; omega
      have hpow : acc * 8 + (c.toNat - 48) < 8 ^ (k + 1) := by have := HA.out.2.2; rw [Nat.pow_succ]; omega
      have a0 : 0 ≤ a := by rw [HA.out.1]; omega
      have a1 : a ≤ 4095 := by rw [HA.out.1]; omega
      have d1 : (48 : Int) ≤ c.toNat := by omega
      have d2 : (c.toNat : Int) ≤ 55 := by omega
      have HN : Hid (a * 8 + ((c.toNat : Int) - 48) = ((acc * 8 + (c.toNat - 48) : Nat) : Int) ∧ acc * 8 + (c.toNat - 48) = readO (bs.take (k + 1)) ∧ acc * 8 + (c.toNat - 48) < 8 ^ (k + 1)) := Lib.hid ⟨by rw [HA.out.1]; omega, hnext, hpow⟩
      clear hhx hcb hacc3 hnext hpow htk hget hlk
      go_wp2
      go_roundw
      case rel => exact ⟨k + 1, _, _, rfl, rfl, by go_num, by omega, trivial, HN⟩
      case measure => simp [intOf]; omega
    · have hk1 : ¬ (k : Int) < t.size := by omega
      have HF : Hid (a = readO bs ∧ readO bs < 32768) := Lib.hid (by
        have hb : bs.take k = bs := List.take_of_length_le (by rw [HLN.out]; omega)
        have h16 : 8 ^ k ≤ 8 ^ 5 := Nat.pow_le_pow_right (by decide) (by have := HT5.out; omega)
        have h2 := HA.out.2.2
        refine ⟨by rw [HA.out.1, HA.out.2.1, hb], ?_⟩
        rw [← hb, ← HA.out.2.1]; omega)
      clear hk hkn
      go_wp2
      exact bodyPost_ret (v := .tuple #[.int .u64 a, .nilIface]) (by simp [results, Tryd.results51, go_sem]) rfl ⟨by rw [HF.out.1], HBEL.out, HF.out.2⟩
end Go.Proofs.YtpoicdpfjmeehaaDoor
