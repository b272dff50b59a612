/- MixSpoils. -/
import Derived.Test.YtkdjddmjcbdhgaaDoorH
namespace Go.Proofs.YtkdjddmjcbdhgaaDoor
open Go.RowKit

theorem and15 (n : Int) : ∃ q : Nat, bits .and .i64 n 15 = (q : Int) ∧ q ≤ 15 := by
  have h127 : (BitVec.ofInt 64 15).toNat = 2 ^ 4 - 1 := by decide
  have key : (BitVec.ofInt 64 n &&& BitVec.ofInt 64 15).toNat = (n % ((2 ^ 64 : Nat) : Int)).toNat % 2 ^ 4 := by
    rw [BitVec.toNat_and, BitVec.toNat_ofInt, h127, Nat.and_two_pow_sub_one_eq_mod]
  refine ⟨(n % ((2 ^ 64 : Nat) : Int)).toNat % 2 ^ 4, ?_, by omega⟩
  show IntKind.i64.wrap ((BitVec.ofInt 64 n &&& BitVec.ofInt 64 15).toNat : Nat) = _
  rw [key, IntKind.wrap_i64]
  omega

/-- A field of which one digit is another byte. -/
theorem spoil_right {F : Bytes} (hF : isField F) {k : Nat} (h5 : 5 ≤ k) (h21 : k < 21) (c : UInt8) : isField (F.set k c) ↔ isHex c = true := by
  obtain ⟨h1, h2, h3⟩ := (isField_iff F).1 hF
  rw [isField_iff]
  constructor
  · rintro ⟨_, _, h⟩
    exact h k c h21 (by omega) (by rw [List.getElem?_set_self (by omega)])
  · intro hc
    refine ⟨by rw [List.length_set]; exact h1, by rw [List.getElem?_set_ne (by omega)]; exact h2, fun i x hi hn hx => ?_⟩
    by_cases hik : i = k
    · subst hik
      rw [List.getElem?_set_self (by omega)] at hx
      rw [← Option.some.inj hx]; exact hc
    · rw [List.getElem?_set_ne (by omega)] at hx
      exact h3 i x hi hn hx
theorem spoil_match {n : Int} {p S : ByteArray} {k : Nat} (h5 : 5 ≤ k) (h21 : k < 21) {c x : UInt8} (hx : (FS n p)[k]? = some x) (hne : x ≠ c) (hS : S.data.toList = (FS n p).set k c) : ¬ MatchP S p := by
  rintro (⟨h, _⟩ | ⟨_, h⟩)
  · rw [hS] at h
    have := congrArg List.length h
    rw [List.length_set, FS_len] at this; simp at this
  · rw [hS, List.take_set_of_le (by omega), FS_salt] at h
    have hF : FS ((sl n : Nat) : Int) p = FS n p := by unfold FS; rw [sl_sl]
    rw [hF] at h
    have h2 := congrArg (fun l : Bytes => l[k]?) h
    replace h2 : (FS n p)[k]? = ((FS n p).set k c)[k]? := h2
    rw [hx, List.getElem?_set_self (by rw [FS_len]; exact h21)] at h2
    exact hne (Option.some.inj h2)

set_option maxHeartbeats 2000000 in
set_option maxRecDepth 100000 in
theorem spoils_law (n : Int) (p : ByteArray) (a : Int) (c : UInt8) (w : World) (hp : p.size ≤ 140737488351232) (hT : HasT w) :
    Calls Tryd.prog 6 #[.int .i64 n, .string p, .int .i64 a, .int .u8 (c.toNat : Int)] w fun e w' => e = .returned (.bool true) ∧ Below w.heap.size w w' := by
  go_enter Tryd.func6, Tryd.ntmps6
  go_wp2_with fail
  refine (shown_any _ hT).mono ?_
  rintro e w1 ⟨rfl, hb⟩
  have HB := Lib.hid hb
  clear hb
  by_cases hl : p.size ≤ 2000
  · have hl1 : ¬ (2000 : Int) < p.size := by omega
    go_wp2_with fail
    refine (field_any n p _ hl (hT.below HB.out)).mono ?_
    rintro e w2 ⟨f, hf, rfl, hb2⟩
    have HB2 := Lib.hid (HB.out.trans (hb2.mono HB.out.size))
    have HF := Lib.hid hf
    have hcv := Lib.run_convert_string_bytes (P := Tryd.prog) w2 9 30 5 f (u := .string) Tryd.underlying9 Tryd.underlying30 Tryd.underlying5
    have hfs : f.size = 21 := by rw [← sz, hf, FS_len]
    have hnew := Lib.bytesWorld_at_new w2 5 f
    have hcell : ∀ j, j < 21 → (Lib.bytesWorld w2 5 f).cell? ⟨w2.heap.size, j, none⟩ = some (.int .u8 ((FS n p).getD j 0).toNat) := fun j hj => by
      rw [← hf]; exact Lib.bytesWorld_cell w2 5 f j (by omega)
    have hbel : Below w.heap.size w (Lib.bytesWorld w2 5 f) := HB2.out.trans ((bytes_below w2 f).mono HB2.out.size)
    have hbn : w.heap.size ≤ w2.heap.size := HB2.out.size
    have hsz2 : w2.heap.size < (Lib.bytesWorld w2 5 f).heap.size := by rw [Lib.bytesWorld_size]; omega
    rw [hfs] at hcv
    generalize Lib.bytesWorld w2 5 f = W3 at *
    generalize Lib.bytesCells w2 5 f = CS at *
    generalize grownCap w2 21 0 5 = cap at *
    obtain ⟨q, hq, hq15⟩ := and15 a
    have hx0 : (FS n p)[5 + q]? = some ((FS n p).getD (5 + q) 0) := by
      rw [List.getD, List.getElem?_eq_getElem (by rw [FS_len]; omega)]; rfl
    have hcx := hcell (5 + q) (by omega)
    generalize (FS n p).getD (5 + q) 0 = x at hx0 hcx
    have hCS : 5 + q < CS.size := by
      have := heap_cell hnew (5 + q)
      rw [hcx] at this
      exact (Array.getElem?_eq_some_iff.1 this.symm).1
    have hfz : W3.frozen? ⟨w2.heap.size, 5 + q, none⟩ = false := by
      simp [World.frozen?, hnew]; omega
    have k1 : (5 + (q : Int)).toNat = 5 + q := by omega
    have k2 : (0 : Int) ≤ 5 + (q : Int) := by omega
    have k3 : 5 + (q : Int) < 21 := by omega
    have HX0 := Lib.hid hx0
    have HNEW := Lib.hid hnew
    have HCELL := Lib.hid hcell
    have HBEL := Lib.hid hbel
    have HCS := Lib.hid hCS
    have HQ := Lib.hid hq15
    have HBN := Lib.hid hbn
    clear hx0 hnew hcell hbel hCS hq15 hf hb2 hbn
    by_cases hxc : x = c
    · subst hxc
      go_wp2
      go_ret
      exact ⟨rfl, HBEL.out⟩
    · have hne : ¬ (x.toNat : Int) = c.toNat := fun h => hxc (by apply UInt8.toNat_inj.1; omega)
      have HNE := Lib.hid hxc
      clear hxc
      obtain ⟨S, hS⟩ : ∃ S : ByteArray, (⟨((FS n p).set (5 + q) c).toArray⟩ : ByteArray) = S := ⟨_, rfl⟩
      have hSd : S.data.toList = (FS n p).set (5 + q) c := by rw [← hS]
      have hSs : S.size = 21 := by rw [← sz, hSd, List.length_set, FS_len]
      have hblk : (W3.setCell ⟨w2.heap.size, 5 + q, none⟩ (.int .u8 (c.toNat : Int))).heap[w2.heap.size]? = some (.cells (CS.setIfInBounds (5 + q) (.int .u8 (c.toNat : Int))) 5 (CS.size, CS.size + 1)) := set_same HNEW.out _
      have conv : ∀ W : World, W.heap[w2.heap.size]? = some (.cells (CS.setIfInBounds (5 + q) (.int .u8 (c.toNat : Int))) 5 (CS.size, CS.size + 1)) →
          (convert 30 9 (.slice (some ⟨w2.heap.size, 0, none⟩) 21 cap)).run Tryd.prog W = .ok (.string S) W := fun W hW => by
        have h := run_convert_bytes_back (P := Tryd.prog) W 30 9 5 ⟨w2.heap.size, 0, none⟩ cap ((FS n p).set (5 + q) c) Tryd.underlying30 Tryd.underlying5 Tryd.underlying9 (fun j hj => by
          rw [List.length_set, FS_len] at hj
          rw [add_plain, heap_cell hW (0 + j), Nat.zero_add]
          by_cases hjk : j = 5 + q
          · subst hjk
            rw [Array.getElem?_setIfInBounds_self_of_lt HCS.out, List.getElem_set_self]
          · rw [Array.getElem?_setIfInBounds_ne (by omega), List.getElem_set_ne (by omega), ← heap_cell HNEW.out j, HCELL.out j hj, List.getD, List.getElem?_eq_getElem (by rw [FS_len]; exact hj)]
            rfl)
        rw [List.length_set, FS_len, hS] at h
        exact h
      have hbel4 : Below w.heap.size w (W3.setCell ⟨w2.heap.size, 5 + q, none⟩ (.int .u8 (c.toNat : Int))) := HBEL.out.setCell HBN.out _
      have hlt4 : w2.heap.size < (W3.setCell ⟨w2.heap.size, 5 + q, none⟩ (.int .u8 (c.toNat : Int))).heap.size := by
        rcases Nat.lt_or_ge w2.heap.size (W3.setCell ⟨w2.heap.size, 5 + q, none⟩ (.int .u8 (c.toNat : Int))).heap.size with h | h
        · exact h
        · rw [Array.getElem?_eq_none h] at hblk; cases hblk
      have HM := Lib.hid (spoil_match (by omega) (by have := HQ.out; omega) HX0.out HNE.out hSd)
      have HR : Hid (RightP S ↔ isHex c = true) := Lib.hid (by
        unfold RightP
        rw [hSd, ← spoil_right (FS_is n p) (k := 5 + q) (by omega) (by have := HQ.out; omega) c]
        constructor
        · rintro (h | h | h)
          · have := congrArg List.length h; rw [List.length_set, FS_len] at this; simp at this
          · have := congrArg List.length h; rw [List.length_set, FS_len] at this; simp at this
          · exact h
        · exact fun h => .inr (.inr h))
      have hcv4 := conv _ hblk
      have CONV := Lib.hid conv
      have HBLK := Lib.hid hblk
      have HB4 := Lib.hid hbel4
      have HLT4 := Lib.hid hlt4
      have HSS := Lib.hid hSs
      clear hS hSd hSs hblk conv hbel4 hlt4
      obtain ⟨W4, hW4⟩ : ∃ W, W3.setCell ⟨w2.heap.size, 5 + q, none⟩ (.int .u8 (c.toNat : Int)) = W := ⟨_, rfl⟩
      rw [hW4] at hcv4 HBLK HB4 HLT4
      have hdig : (isHex c = true ∧ (48 : Int) ≤ c.toNat ∧ (c.toNat : Int) ≤ 57) ∨ (isHex c = true ∧ (97 : Int) ≤ c.toNat ∧ (c.toNat : Int) ≤ 102) ∨ (isHex c = false ∧ (c.toNat : Int) < 48) ∨ (isHex c = false ∧ (57 : Int) < c.toNat ∧ (c.toNat : Int) < 97) ∨ (isHex c = false ∧ (102 : Int) < c.toNat) := by
        by_cases hx : isHex c = true
        · rcases hex_kind hx with ⟨h1, h2, _⟩ | ⟨h1, h2, _⟩
          · exact .inl ⟨hx, by omega, by omega⟩
          · exact .inr (.inl ⟨hx, by omega, by omega⟩)
        · have hx3 : isHex c = false := by simpa using hx
          have hx2 := hx
          unfold isHex at hx2
          simp at hx2
          by_cases h1 : c.toNat < 48
          · exact .inr (.inr (.inl ⟨hx3, by omega⟩))
          · by_cases h2 : c.toNat < 97
            · exact .inr (.inr (.inr (.inl ⟨hx3, by have := hx2.1 (by omega); omega, by omega⟩)))
            · exact .inr (.inr (.inr (.inr ⟨hx3, by have := hx2.2 (by omega); omega⟩)))
      rcases hdig with ⟨hx, d1, d2⟩ | ⟨hx, d1, d2⟩ | ⟨hx, d1⟩ | ⟨hx, d1, d2⟩ | ⟨hx, d1⟩
      all_goals
        rw [hx] at HR
        clear hx
        go_wp2_with fail
        refine bool_no (matches_any S p _ (by have := HSS.out; omega) hl (hT.below HB4.out)) HM.out ?_
        intro w5 hb5
        have hcv5 := CONV.out w5 (by rw [hb5.block _ HLT4.out]; exact HBLK.out)
        have HB5 := Lib.hid (HB4.out.trans (hb5.mono HB4.out.size))
        clear hb5
        go_wp2_with fail
        refine (right_any S _ (by have := HSS.out; omega)).mono ?_
        rintro e w6 ⟨r, rfl, hr, hb6⟩
        have HB6 := Lib.hid (HB5.out.trans (hb6.mono HB5.out.size))
        have hr2 := hr.trans HR.out
        clear hb6 hr
        cases r
        all_goals first
          | (exfalso; simp at hr2; done)
          | (go_wp2
             go_ret
             first
               | exact ⟨rfl, HB6.out⟩
               | (refine ⟨?_, HB6.out⟩
                  simp
                  omega))
  · have hl1 : (2000 : Int) < p.size := by omega
    go_wp2
    go_ret
    exact ⟨rfl, HB.out⟩
end Go.Proofs.YtkdjddmjcbdhgaaDoor
