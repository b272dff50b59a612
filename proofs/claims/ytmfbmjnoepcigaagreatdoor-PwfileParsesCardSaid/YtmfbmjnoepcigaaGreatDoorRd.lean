/- The document's digits, number and Name. -/
import Derived.Test.YtmfbmjnoepcigaaGreatDoorRb
import Derived.Maps.AppendAt
import Derived.Lib.ConvBytes
namespace Go.Proofs.YtmfbmjnoepcigaaGreatDoor
open Go.RowKit

theorem conv_one (W : World) (c : UInt8) : (convert 45 9 (.slice (some ⟨W.heap.size, 0, none⟩) 1 1)).run Tryz.prog (W.alloc (Obj.cells #[.int .u8 (c.toNat : Int)] 5)) = .ok (.string ⟨#[c]⟩) (W.alloc (Obj.cells #[.int .u8 (c.toNat : Int)] 5)) :=
  run_convert_bytes_back (P := Tryz.prog) (W.alloc (Obj.cells #[.int .u8 (c.toNat : Int)] 5)) 45 9 5 ⟨W.heap.size, 0, none⟩ 1 [c] Tryz.underlying45 Tryz.underlying5 Tryz.underlying9 (fun j hj => by
    obtain rfl : j = 0 := by simp at hj; exact hj
    exact cell_one_new W (.int .u8 (c.toNat : Int)) 5 0 _ rfl)
/-- What is left of a number, and its last digits. -/
def DigAt (N m : Nat) (S : ByteArray) : Prop := decD N = (if m ≤ 9 then [] else decD (m / 10)) ++ S.data.toList
theorem dig_start (N : Nat) : DigAt N N ⟨#[dch (N % 10)]⟩ := by
  unfold DigAt
  by_cases h : N ≤ 9
  · rw [if_pos h, decD_le h, Nat.mod_eq_of_lt (by omega)]; rfl
  · rw [if_neg h, decD_gt h]
theorem dig_step {N m : Nat} {S : ByteArray} (h : DigAt N m S) (hm : ¬ m ≤ 9) : DigAt N (m / 10) (⟨#[dch (m / 10 % 10)]⟩ ++ S) := by
  unfold DigAt at *
  rw [h, if_neg hm, ByteArray.data_append, Array.toList_append]
  by_cases h9 : m / 10 ≤ 9
  · rw [if_pos h9, decD_le h9, Nat.mod_eq_of_lt (by omega)]; rfl
  · rw [if_neg h9]
    conv => lhs; rw [decD_gt h9]
    simp
theorem dec_small {N : Nat} (h : N ≤ 65535) : (decD N).length ≤ 5 := (decD_facts 4 N (by omega)).2.1
def digS (N : Nat) : ByteArray := ⟨(decD N).toArray⟩
theorem dig_end {N m : Nat} {S : ByteArray} (h : DigAt N m S) (hm : m ≤ 9) : S = digS N := by
  unfold DigAt at h
  rw [if_pos hm, List.nil_append] at h
  exact ba_eq (by rw [← h]; rfl)
theorem dig_size {N m : Nat} {S : ByteArray} (h : DigAt N m S) (hN : N ≤ 65535) : S.size ≤ 5 := by
  have h1 := congrArg List.length h
  rw [List.length_append, sz] at h1
  have := dec_small hN
  omega
theorem dig_facts (m : Nat) : (m : Int).tmod 10 = ((m % 10 : Nat) : Int) ∧ IntKind.u8.wrap (48 + ((m % 10 : Nat) : Int)) = ((dch (m % 10)).toNat : Int) ∧ wrap64 (48 + ((m % 10 : Nat) : Int)) = 48 + ((m % 10 : Nat) : Int) := by
  have hmod : (m : Int).tmod 10 = ((m % 10 : Nat) : Int) := by rw [Int.tmod_eq_emod_of_nonneg (by omega)]; rfl
  have hlt : m % 10 < 10 := Nat.mod_lt _ (by omega)
  have hd : ((dch (m % 10)).toNat : Int) = 48 + ((m % 10 : Nat) : Int) := by rw [dch_nat hlt]; omega
  refine ⟨hmod, by rw [hd, IntKind.wrap_u8]; omega, by unfold wrap64; omega⟩
theorem div_facts {m : Nat} (h : m ≤ 65535) : (m : Int).tdiv 10 = ((m / 10 : Nat) : Int) ∧ wrap64 ((m / 10 : Nat) : Int) = ((m / 10 : Nat) : Int) ∧ m / 10 ≤ 65535 := by
  refine ⟨by rw [Int.tdiv_eq_ediv_of_nonneg (by omega)]; rfl, by unfold wrap64; omega, by omega⟩
set_option maxHeartbeats 2000000 in
set_option maxRecDepth 100000 in
theorem rdigits_any (N : Nat) (w : World) (hN : N ≤ 65535) : Calls Tryz.prog 47 #[.int .i64 N] w fun e w' => e = .returned (.string (digS N)) ∧ Below w.heap.size w w' := by
  have HN := Lib.hid hN
  have hN1 : (N : Int) ≤ 65535 := by omega
  have HS := Lib.hid (dig_start N)
  clear hN
  obtain ⟨hmod, hw8, hw64⟩ := dig_facts N
  generalize dch (N % 10) = c0 at *
  generalize N % 10 = m0 at *
  have hcv := conv_one w c0
  go_enter Tryz.func47, Tryz.ntmps47
  go_wp2
  go_loopw [0, 3] (fun v0 v3 wr => ∃ (m : Nat) (S : ByteArray), v0 = .int .i64 m ∧ v3 = .string S ∧ m ≤ 65535 ∧ Hid (Below w.heap.size w wr ∧ DigAt N m S)) (fun v0 v3 _ => (intOf v0).toNat)
  case atStart => exact ⟨N, ⟨#[c0]⟩, rfl, rfl, HN.out, Lib.hid ⟨(Below.refl _ _).alloc (Nat.le_refl _) _, HS.out⟩⟩
  case round =>
    clear hmod hw8 hw64 hcv
    obtain ⟨m, S, rfl, rfl, hm, HH⟩ := hrel
    by_cases h9 : m ≤ 9
    · have h91 : ¬ (9 : Int) < m := by omega
      have hS := dig_end HH.out.2 h9
      clear h9 hm
      go_wp2
      go_ret
      exact ⟨rfl, HH.out.1⟩
    · have h91 : (9 : Int) < m := by omega
      have HM := Lib.hid hm
      have HS2 := Lib.hid (dig_step HH.out.2 h9)
      have HLQ : Hid (m / 10 < m) := Lib.hid (by omega)
      have hsz : (S.size : Int) ≤ 5 := by have := dig_size HH.out.2 HN.out; omega
      have hm2 := hm
      clear h9
      obtain ⟨hdiv, hw64q, hq⟩ := div_facts hm
      obtain ⟨hmod2, hw82, hw642⟩ := dig_facts (m / 10)
      have HQ := Lib.hid hq
      clear hm hm2 hq
      generalize dch (m / 10 % 10) = c2 at *
      generalize m / 10 % 10 = m2 at *
      generalize m / 10 = q at *
      have hcv2 := conv_one wr c2
      go_wp2
      go_roundw
      case rel => exact ⟨q, _, by rw [hw64q], rfl, HQ.out, Lib.hid ⟨HH.out.1.alloc HH.out.1.size _, HS2.out⟩⟩
      case measure =>
        have hz : (intOf (.int .i64 (wrap64 (q : Int)))).toNat < (intOf (.int .i64 (m : Int))).toNat := by
          rw [hw64q]
          show (q : Int).toNat < (m : Int).toNat
          rw [Int.toNat_natCast, Int.toNat_natCast]
          exact HLQ.out
        exact hz
end Go.Proofs.YtmfbmjnoepcigaaGreatDoor
