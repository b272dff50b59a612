/- A field is read: Cut, Trim, ParseUint at base 16. -/
import Derived.Test.YtmfbmjnoepcigaaGreatDoorCut
import Derived.Laws.BitsLemmas
import Derived.Laws.IdiomStrings
import Derived.Lib.ConvBytes
import Derived.Shelf.Strings.SlTrimAscii
namespace Go.Proofs.YtmfbmjnoepcigaaGreatDoor.Mx
open Go.RowKit

theorem low_bits : ∀ j : Fin 6, bits .or .u8 ((97 + j.val : Nat) : Int) 32 = ((97 + j.val : Nat) : Int) := by decide
theorem low_any (c : Nat) (h : 97 ≤ c) (h2 : c ≤ 102) (w : World) : Calls Tryz.prog 68 #[.int .u8 c] w fun e w' => e = .returned (.int .u8 c) ∧ w' = w := by
  have hb : bits .or .u8 (c : Int) 32 = (c : Int) := by
    have := low_bits ⟨c - 97, by omega⟩
    rw [show 97 + (c - 97) = c by omega] at this
    exact this
  go_enter Tryz.func68, Tryz.ntmps68
  go_wp2
  go_ret
  exact ⟨rfl, rfl⟩

theorem bytes_below (w : World) (t : ByteArray) : Below w.heap.size w (Lib.bytesWorld w 5 t) := by
  exact ⟨rfl, rfl, rfl, by rw [Lib.bytesWorld_size]; omega, fun j hj => Lib.bytesWorld_at_old w 5 t j hj⟩
theorem hex_kind {c : UInt8} (h : isHex c = true) : (48 ≤ c.toNat ∧ c.toNat ≤ 57 ∧ val c = c.toNat - 48) ∨ (97 ≤ c.toNat ∧ c.toNat ≤ 102 ∧ val c = c.toNat - 87) := by
  unfold isHex at h; unfold val
  simp at h
  rcases h with h | h
  · left; rw [if_pos h.2]; omega
  · right; rw [if_neg (by omega)]; omega

set_option maxHeartbeats 2000000 in
set_option maxRecDepth 100000 in
theorem ipu_any (t : ByteArray) (ht : t.size = 4) (hx : t.data.toList.all isHex = true) (w : World) :
    Calls Tryz.prog 50 #[.string t, .int .i64 16, .int .i64 16] w fun e w' => e = .returned (.tuple #[.int .u64 (readN t.data.toList), .nilIface]) ∧ Below w.heap.size w w' := by
  have hemp : t.toList.isEmpty = false := by
    rw [← decide_eq_emptyBytes]
    exact decide_eq_false (fun h => by rw [h] at ht; cases ht)
  have hcv := Lib.run_convert_string_bytes (P := Tryz.prog) w 9 45 5 t (u := .string) Tryz.underlying9 Tryz.underlying45 Tryz.underlying5
  have hB : ∀ j, j < t.size → (Lib.bytesWorld w 5 t).cell? ⟨w.heap.size, j, none⟩ = some (.int .u8 (t.data.toList.getD j 0).toNat) := fun j hj => Lib.bytesWorld_cell w 5 t j hj
  have hbel : Below w.heap.size w (Lib.bytesWorld w 5 t) := bytes_below w t
  have hmv : IntKind.u64.wrap (IntKind.u64.wrap 65536 - 1) = 65535 := by
    rw [IntKind.wrap_u64, IntKind.wrap_u64]
    decide
  obtain ⟨W1, hW1⟩ : ∃ W1, W1 = Lib.bytesWorld w 5 t := ⟨_, rfl⟩
  rw [← hW1] at hcv hB hbel
  clear hW1
  obtain ⟨bs, hL⟩ : ∃ bs, bs = t.data.toList := ⟨_, rfl⟩
  have hLn : bs.length = 4 := by rw [hL, ← ht]; simp
  rw [← hL] at hB hx
  rw [← hL]
  clear hL
  have HB := Lib.hid hB
  have HX := Lib.hid hx
  have HBEL := Lib.hid hbel
  clear hB hx hbel
  rw [ht] at hcv
  have HT := Lib.hid ht
  have HLN := Lib.hid hLn
  clear ht hLn
  go_enter Tryz.func50, Tryz.ntmps50
  go_wp2
  go_loopw [12, 13, 15, 16, 17, 101] (fun vu vn vc vd v1 vi wr => ∃ (k acc : Nat) (a : Int), vu = .bool false ∧ vn = .int .u64 a ∧ vi = .int .i64 k ∧ k ≤ 4 ∧ wr = W1 ∧ Hid (a = (acc : Int) ∧ acc = readN (bs.take k) ∧ acc < 16 ^ k)) (fun vu vn vc vd v1 vi _ => 4 - (intOf vi).toNat)
  case atStart => exact ⟨0, 0, 0, rfl, rfl, rfl, by omega, rfl, Lib.hid ⟨rfl, rfl, by decide⟩⟩
  case round =>
    obtain ⟨k, acc, a, rfl, rfl, rfl, hk, rfl, HA⟩ := hrel
    by_cases hkn : k < 4
    · have hk1 : (k : Int) < 4 := by omega
      have hc := HB.out k (by rw [HT.out]; exact hkn)
      have hlk : k < bs.length := by rw [HLN.out]; exact hkn
      have hget : bs.getD k 0 = bs[k]'hlk := by simp [List.getD, List.getElem?_eq_getElem hlk]
      rw [hget] at hc
      have htk : bs.take (k + 1) = bs.take k ++ [bs[k]'hlk] := by rw [List.take_succ_eq_append_getElem hlk]
      have hhx : isHex (bs[k]'hlk) = true := List.all_eq_true.1 HX.out _ (List.getElem_mem _)
      generalize bs[k]'hlk = c at hc htk hhx
      have hval := val_lt hhx
      have hacc3 : acc < 4096 := by
        have h16 : 16 ^ k ≤ 16 ^ 3 := Nat.pow_le_pow_right (by decide) (by omega)
        have := HA.out.2.2
        omega
      have hnext : acc * 16 + val c = readN (bs.take (k + 1)) := by rw [htk, readN_app, ← HA.out.2.1]; omega
      have hpow : acc * 16 + val c < 16 ^ (k + 1) := by have := HA.out.2.2; rw [Nat.pow_succ]; omega
      have a0 : 0 ≤ a := by rw [HA.out.1]; omega
      have a1 : a ≤ 4095 := by rw [HA.out.1]; omega
      rcases hex_kind hhx with ⟨h1, h2, h3⟩ | ⟨h1, h2, h3⟩
      · have d1 : (48 : Int) ≤ c.toNat := by omega
        have d2 : (c.toNat : Int) ≤ 57 := by omega
        have HN : Hid (a * 16 + ((c.toNat : Int) - 48) = ((acc * 16 + val c : Nat) : Int) ∧ acc * 16 + val c = readN (bs.take (k + 1)) ∧ acc * 16 + val c < 16 ^ (k + 1)) := Lib.hid ⟨by rw [HA.out.1]; omega, hnext, hpow⟩
        clear hhx h1 h2 h3 hval hacc3 hnext hpow htk hget hlk
        go_wp2
        go_roundw
        case rel => exact ⟨k + 1, _, _, rfl, rfl, by go_num, by omega, trivial, HN⟩
        case measure => simp [intOf]; omega
      · have d1 : (97 : Int) ≤ c.toNat := by omega
        have d2 : (c.toNat : Int) ≤ 102 := by omega
        have HN : Hid (a * 16 + ((c.toNat : Int) - 97 + 10) = ((acc * 16 + val c : Nat) : Int) ∧ acc * 16 + val c = readN (bs.take (k + 1)) ∧ acc * 16 + val c < 16 ^ (k + 1)) := Lib.hid ⟨by rw [HA.out.1]; omega, hnext, hpow⟩
        have HL1 := Lib.hid h1
        have HL2 := Lib.hid h2
        clear hhx h1 h2 h3 hval hacc3 hnext hpow htk hget hlk
        go_wp2_with (go_at_call 68; refine (low_any _ HL1.out HL2.out _).mono ?_; rintro e w' ⟨rfl, rfl⟩)
        go_roundw
        case rel => exact ⟨k + 1, _, _, rfl, rfl, by go_num, by omega, trivial, HN⟩
        case measure => simp [intOf]; omega
    · have hk1 : ¬ (k : Int) < 4 := by omega
      have HF : Hid (a = readN bs) := Lib.hid (by rw [HA.out.1, HA.out.2.1, List.take_of_length_le (by rw [HLN.out]; omega)])
      clear hk hkn
      go_wp2
      exact bodyPost_ret (v := .tuple #[.int .u64 a, .nilIface]) (by simp [results, Tryz.results37, go_sem]) rfl ⟨by rw [HF.out], HBEL.out⟩
end Go.Proofs.YtmfbmjnoepcigaaGreatDoor.Mx
