/- The document's Name and number. -/
import Derived.Test.YtmfbmjnoepcigaaGreatDoorRb
namespace Go.Proofs.YtmfbmjnoepcigaaGreatDoor
open Go.RowKit

theorem get_at (s : ByteArray) (i : Nat) (h : i < s.size) : s.data.toList[i]? = some s[i] := by
  rw [List.getElem?_eq_getElem (by rw [sz]; exact h)]; rfl
/-- A byte at a place, as the document asks for it. -/
def nmAt (k : Nat) (c : UInt8) : Bool := isLow c || (decide (k ≠ 0) && isDig c)
def NameAt (s : ByteArray) (k : Nat) : Prop := ∀ j (h : j < s.size), j < k → nmAt j s[j] = true
theorem name_all {s : ByteArray} (h0 : 1 ≤ s.size) (h8 : s.size ≤ 8) (h : NameAt s s.size) : nameB s.data.toList = true := by
  unfold nameB
  have h1 := h 0 (by omega) (by omega)
  have hh : headLow s.data.toList = true := by
    rw [head_data (by omega)]
    simpa [nmAt] using h1
  have ha : s.data.toList.all isAln = true := by
    refine List.all_eq_true.2 fun x hx => ?_
    obtain ⟨j, hj, rfl⟩ := List.getElem_of_mem hx
    rw [sz] at hj
    have h2 := h j hj (by omega)
    have h3 : s.data.toList[j]'(by rw [sz]; exact hj) = s[j] := rfl
    rw [h3]
    unfold nmAt at h2
    unfold isAln
    cases hl : isLow s[j] with
    | true => rfl
    | false => rw [hl] at h2; simp at h2; simp [h2.2]
  rw [hh, ha, sz]
  simpa using h8
theorem name_not {s : ByteArray} (h : s.size < 1 ∨ 8 < s.size ∨ ∃ k, ∃ h : k < s.size, nmAt k s[k] = false) : nameB s.data.toList = false := by
  cases hn : nameB s.data.toList with
  | false => rfl
  | true =>
    exfalso
    unfold nameB at hn
    simp only [Bool.and_eq_true, decide_eq_true_eq, sz] at hn
    obtain ⟨⟨h1, h2⟩, h3⟩ := hn
    rcases h with h | h | ⟨k, hk, h⟩
    · have : s.data.toList = [] := List.length_eq_zero_iff.1 (by rw [sz]; omega)
      rw [this] at h2; simp [headLow] at h2
    · omega
    · have hm : s[k] ∈ s.data.toList := List.mem_of_getElem? (get_at s k hk)
      have ha := List.all_eq_true.1 h3 _ hm
      unfold isAln at ha
      unfold nmAt at h
      by_cases hk0 : k = 0
      · subst hk0
        rw [head_data (by omega)] at h2
        rw [h2] at h; simp at h
      · cases hl : isLow s[k] with
        | true => rw [hl] at h; simp at h
        | false => rw [hl] at ha h; simp [hk0] at h ha; rw [h] at ha; cases ha
set_option maxHeartbeats 2000000 in
set_option maxRecDepth 100000 in
theorem rname_any (s : ByteArray) (w : World) (hs : s.size ≤ 140737488351232) : Calls Tryz.prog 41 #[.string s] w fun e w' => e = .returned (.bool (nameB s.data.toList)) ∧ w' = w := by
  by_cases h0 : s.size < 1
  · have h1 : (s.size : Int) < 1 := by omega
    rw [name_not (.inl h0)]
    clear h0 hs
    go_enter Tryz.func41, Tryz.ntmps41
    go_wp2
    go_ret
    exact ⟨rfl, rfl⟩
  · have h1 : ¬ (s.size : Int) < 1 := by omega
    by_cases h8 : 8 < s.size
    · have h2 : (8 : Int) < s.size := by omega
      rw [name_not (.inr (.inl h8))]
      clear h0 h8 hs
      go_enter Tryz.func41, Tryz.ntmps41
      go_wp2
      go_ret
      exact ⟨rfl, rfl⟩
    · have h2 : ¬ (8 : Int) < s.size := by omega
      have hs8 : (s.size : Int) ≤ 8 := by omega
      have HL := Lib.hid (And.intro h0 h8)
      clear h0 h8 hs
      go_enter Tryz.func41, Tryz.ntmps41
      go_wp2
      go_loopw [3, 4] (fun v3 v4 wr => ∃ k : Nat, k ≤ s.size ∧ v3 = .int .i64 k ∧ wr = w ∧ Hid (NameAt s k)) (fun v3 v4 _ => s.size - (intOf v3).toNat)
      case atStart => exact ⟨0, Nat.zero_le _, rfl, rfl, Lib.hid fun j _ h => by omega⟩
      case round =>
        obtain ⟨k, hk, rfl, rfl, HH⟩ := hrel
        by_cases hlt : k < s.size
        · have hlt1 : (k : Int) < s.size := by omega
          have HNX : Hid (nmAt k s[k] = true → NameAt s (k + 1)) := Lib.hid fun h j hj hjk => by
            by_cases he : j = k
            · subst he; exact h
            · exact HH.out j hj (by omega)
          have HNN : Hid (nmAt k s[k] = false → nameB s.data.toList = false) := Lib.hid fun h => name_not (.inr (.inr ⟨k, hlt, h⟩))
          have hc : (nmAt k s[k] = true ∧ ((97 : Int) ≤ (s[k].toNat : Int) ∧ (s[k].toNat : Int) ≤ 122)) ∨ (nmAt k s[k] = true ∧ ((97 : Int) ≤ (s[k].toNat : Int) → ¬ (s[k].toNat : Int) ≤ 122) ∧ k ≠ 0 ∧ ¬ (s[k].toNat : Int) < 48 ∧ ¬ (57 : Int) < (s[k].toNat : Int)) ∨
              (nmAt k s[k] = false ∧ ((97 : Int) ≤ (s[k].toNat : Int) → ¬ (s[k].toNat : Int) ≤ 122) ∧ (k ≠ 0 → ¬ (s[k].toNat : Int) < 48 → (57 : Int) < (s[k].toNat : Int))) := by
            unfold nmAt isLow isDig
            by_cases a1 : 97 ≤ s[k].toNat <;> by_cases a2 : s[k].toNat ≤ 122 <;> by_cases a3 : k = 0 <;> by_cases a4 : 48 ≤ s[k].toNat <;> by_cases a5 : s[k].toNat ≤ 57 <;> simp [a1, a2, a3, a4, a5] <;> omega
          generalize nmAt k s[k] = b at *
          rcases hc with ⟨hb, d1, d2⟩ | ⟨hb, d1, d3, d4, d5⟩ | ⟨hb, d1, d3⟩
          · subst hb
            have HX := Lib.hid (HNX.out rfl)
            clear HNX HNN
            go_wp2
            go_roundw
            case rel => exact ⟨k + 1, by omega, by go_num, trivial, HX⟩
            case measure => simp [intOf]; omega
          · subst hb
            have HX := Lib.hid (HNX.out rfl)
            have hk0 : ((k : Int) == 0) = false := by simp; omega
            have HK := Lib.hid d3
            clear HNX HNN d3
            by_cases e1 : (97 : Int) ≤ (s[k].toNat : Int)
            · exfalso; omega
            · clear d1
              go_wp2
              go_roundw
              case rel => exact ⟨k + 1, by omega, by go_num, trivial, HX⟩
              case measure => simp [intOf]; omega
          · subst hb
            have HX := Lib.hid (HNN.out rfl)
            clear HNX HNN
            by_cases hk0 : k = 0
            · subst hk0
              clear d3
              by_cases e1 : (97 : Int) ≤ (s[0].toNat : Int)
              · have d2 := d1 e1
                clear d1
                go_wp2
                go_ret
                exact ⟨by rw [HX.out]; rfl, rfl⟩
              · clear d1
                go_wp2
                go_ret
                exact ⟨by rw [HX.out]; rfl, rfl⟩
            · have hk1 : ((k : Int) == 0) = false := by simp; omega
              have d4 := d3 hk0
              clear d3 hk0
              by_cases e1 : (97 : Int) ≤ (s[k].toNat : Int)
              · have d2 := d1 e1
                have e3 : ¬ (s[k].toNat : Int) < 48 := by omega
                have e4 := d4 e3
                clear d1 d4
                go_wp2
                go_ret
                exact ⟨by rw [HX.out]; rfl, rfl⟩
              · clear d1
                by_cases e3 : (s[k].toNat : Int) < 48
                · clear d4
                  go_wp2
                  go_ret
                  exact ⟨by rw [HX.out]; rfl, rfl⟩
                · have e4 := d4 e3
                  clear d4
                  go_wp2
                  go_ret
                  exact ⟨by rw [HX.out]; rfl, rfl⟩
        · have hlt1 : ¬ (k : Int) < s.size := by omega
          have hkk : k = s.size := by omega
          have HX := Lib.hid (name_all (by have := HL.out; omega) (by have := HL.out; omega) (hkk ▸ HH.out))
          clear hkk hlt hk
          go_wp2
          go_ret
          exact ⟨by rw [HX.out]; rfl, rfl⟩
/-- The number of a word; -1: it is none. -/
def numZ (l : Bytes) : Int := if 1 ≤ l.length ∧ l.length ≤ 5 ∧ l.all isDig = true then (readD l : Int) else -1
theorem readD_snoc (l : Bytes) (c : UInt8) : readD (l ++ [c]) = 10 * readD l + (c.toNat - 48) := by unfold readD; rw [List.foldl_append]; rfl
theorem take_snoc (s : ByteArray) (k : Nat) (h : k < s.size) : s.data.toList.take (k + 1) = s.data.toList.take k ++ [s[k]] := by
  rw [List.take_succ_eq_append_getElem (by rw [sz]; exact h)]; rfl
/-- What has been read of a number. -/
def NumAt (s : ByteArray) (k n : Nat) : Prop := n = readD (s.data.toList.take k) ∧ n < 10 ^ k ∧ ∀ j (h : j < s.size), j < k → isDig s[j] = true
theorem num_step {s : ByteArray} {k n : Nat} (h : NumAt s k n) (hk : k < s.size) (hd : isDig s[k] = true) : NumAt s (k + 1) (10 * n + (s[k].toNat - 48)) := by
  obtain ⟨h1, h2, h3⟩ := h
  refine ⟨by rw [take_snoc s k hk, readD_snoc, h1], ?_, fun j hj hjk => ?_⟩
  · unfold isDig at hd
    simp only [Bool.and_eq_true, decide_eq_true_eq] at hd
    rw [Nat.pow_succ]; omega
  · by_cases he : j = k
    · subst he; exact hd
    · exact h3 j hj (by omega)
theorem num_end {s : ByteArray} {n : Nat} (h : NumAt s s.size n) (h1 : 1 ≤ s.size) (h5 : s.size ≤ 5) : numZ s.data.toList = n := by
  unfold numZ
  have ha : s.data.toList.all isDig = true := by
    refine List.all_eq_true.2 fun x hx => ?_
    obtain ⟨j, hj, rfl⟩ := List.getElem_of_mem hx
    rw [sz] at hj
    exact h.2.2 j hj (by omega)
  rw [if_pos ⟨by rw [sz]; exact h1, by rw [sz]; exact h5, ha⟩, h.1, List.take_of_length_le (by rw [sz]; exact Nat.le_refl _)]
theorem num_none {s : ByteArray} (h : s.size < 1 ∨ 5 < s.size ∨ ∃ k, ∃ h : k < s.size, isDig s[k] = false) : numZ s.data.toList = -1 := by
  unfold numZ
  rw [if_neg]
  rintro ⟨h1, h2, h3⟩
  rw [sz] at h1 h2
  rcases h with h | h | ⟨k, hk, h⟩
  · omega
  · omega
  · have hm : s[k] ∈ s.data.toList := List.mem_of_getElem? (get_at s k hk)
    rw [List.all_eq_true.1 h3 _ hm] at h
    cases h
theorem num_facts {n : Nat} {c : UInt8} (hn : n < 100000) (h1 : 48 ≤ c.toNat) (h2 : c.toNat ≤ 57) : wrap64 (10 * (n : Int)) = 10 * (n : Int) ∧ IntKind.u8.wrap ((c.toNat : Int) - 48) = (c.toNat : Int) - 48 ∧ wrap64 ((c.toNat : Int) - 48) = (c.toNat : Int) - 48 ∧ wrap64 (10 * (n : Int) + ((c.toNat : Int) - 48)) = 10 * (n : Int) + ((c.toNat : Int) - 48) ∧ 10 * (n : Int) + ((c.toNat : Int) - 48) = ((10 * n + (c.toNat - 48) : Nat) : Int) := by
  refine ⟨by unfold wrap64; omega, by rw [IntKind.wrap_u8]; omega, by unfold wrap64; omega, by unfold wrap64; omega, by omega⟩
set_option maxHeartbeats 2000000 in
set_option maxRecDepth 100000 in
theorem rnum_any (s : ByteArray) (w : World) : Calls Tryz.prog 33 #[.string s] w fun e w' => e = .returned (.int .i64 (numZ s.data.toList)) ∧ w' = w := by
  by_cases h0 : s.size < 1
  · have h1 : (s.size : Int) < 1 := by omega
    rw [num_none (.inl h0)]
    clear h0
    go_enter Tryz.func33, Tryz.ntmps33
    go_wp2
    go_ret
    exact ⟨rfl, rfl⟩
  · have h1 : ¬ (s.size : Int) < 1 := by omega
    by_cases h8 : 5 < s.size
    · have h2 : (5 : Int) < s.size := by omega
      rw [num_none (.inr (.inl h8))]
      clear h0 h8
      go_enter Tryz.func33, Tryz.ntmps33
      go_wp2
      go_ret
      exact ⟨rfl, rfl⟩
    · have h2 : ¬ (5 : Int) < s.size := by omega
      have hs5 : (s.size : Int) ≤ 5 := by omega
      have HL := Lib.hid (And.intro h0 h8)
      clear h0 h8
      go_enter Tryz.func33, Tryz.ntmps33
      go_wp2
      go_loopw [3, 4] (fun v3 v4 wr => ∃ k n : Nat, k ≤ s.size ∧ v3 = .int .i64 n ∧ v4 = .int .i64 k ∧ wr = w ∧ Hid (NumAt s k n)) (fun v3 v4 _ => s.size - (intOf v4).toNat)
      case atStart => exact ⟨0, 0, Nat.zero_le _, rfl, rfl, rfl, Lib.hid ⟨rfl, by decide, fun j _ h => by omega⟩⟩
      case round =>
        obtain ⟨k, n, hk, rfl, rfl, rfl, HH⟩ := hrel
        by_cases hlt : k < s.size
        · have hlt1 : (k : Int) < s.size := by omega
          cases hd : isDig s[k] with
          | true =>
            have hd2 := hd
            unfold isDig at hd2
            simp only [Bool.and_eq_true, decide_eq_true_eq] at hd2
            have HX := Lib.hid (num_step HH.out hlt hd)
            have hn : n < 100000 := by
              have := HH.out.2.1
              have h10 : 10 ^ k ≤ 10 ^ 5 := Nat.pow_le_pow_right (by decide) (by have := HL.out; omega)
              omega
            obtain ⟨q1, q2, q3, q4, q5⟩ := num_facts hn hd2.1 hd2.2
            have e1 : ¬ (s[k].toNat : Int) < 48 := by omega
            have e2 : ¬ (57 : Int) < (s[k].toNat : Int) := by omega
            have HQ5 := Lib.hid q5
            clear hd hd2 hn q5
            go_wp2
            go_roundw
            case rel => exact ⟨k + 1, _, by omega, by rw [q4, HQ5.out], by go_num, trivial, HX⟩
            case measure => clear q1 q2 q3 q4; simp [intOf]; omega
          | false =>
            have HX := Lib.hid (num_none (.inr (.inr ⟨k, hlt, hd⟩)))
            by_cases e1 : (s[k].toNat : Int) < 48
            · clear hd
              go_wp2
              go_ret
              exact ⟨by rw [HX.out]; rfl, rfl⟩
            · have e2 : (57 : Int) < (s[k].toNat : Int) := by
                by_cases e : s[k].toNat ≤ 57
                · exfalso
                  unfold isDig at hd
                  simp [e] at hd
                  omega
                · omega
              clear hd
              go_wp2
              go_ret
              exact ⟨by rw [HX.out]; rfl, rfl⟩
        · have hlt1 : ¬ (k : Int) < s.size := by omega
          have hkk : k = s.size := by omega
          have HX := Lib.hid (num_end (hkk ▸ HH.out) (by have := HL.out; omega) (by have := HL.out; omega))
          clear hkk hlt hk
          go_wp2
          go_ret
          exact ⟨by rw [HX.out]; rfl, rfl⟩
end Go.Proofs.YtmfbmjnoepcigaaGreatDoor
