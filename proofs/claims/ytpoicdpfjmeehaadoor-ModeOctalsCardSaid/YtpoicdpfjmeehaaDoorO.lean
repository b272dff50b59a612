/- The document's Octal. -/
import Derived.Test.YtpoicdpfjmeehaaDoorN
namespace Go.Proofs.YtpoicdpfjmeehaaDoor
open Go.RowKit

set_option maxHeartbeats 1000000 in
theorem roctal_any (s : ByteArray) (hs : s.size ≤ 140737488351232) (w : World) : Calls Tryd.prog 17 #[.string s] w fun e w' => e = octEnd (octS s.data.toList) ∧ w' = w := by
  have hsz : s.data.toList.length = s.size := by simp
  by_cases h1 : s.size < 1
  · have h11 : (s.size : Int) < 1 := by omega
    have ho : octS s.data.toList = none := by
      unfold octS
      rw [if_neg]
      rintro ⟨h, _⟩
      exact h (List.eq_nil_of_length_eq_zero (by omega))
    rw [ho]
    clear ho hsz h1
    go_enter Tryd.func17, Tryd.ntmps17
    go_wp2
    exact bodyPost_ret (v := .tuple #[.int .i64 0, .bool false]) (by simp [results, Tryd.results17, go_sem]) rfl ⟨rfl, rfl⟩
  · by_cases h5 : 5 < s.size
    · have h51 : (5 : Int) < s.size := by omega
      have ho : octS s.data.toList = none := by
        unfold octS
        rw [if_neg]
        rintro ⟨_, h, _⟩
        omega
      rw [ho]
      clear ho hsz h1 h5
      go_enter Tryd.func17, Tryd.ntmps17
      go_wp2
      exact bodyPost_ret (v := .tuple #[.int .i64 0, .bool false]) (by simp [results, Tryd.results17, go_sem]) rfl ⟨rfl, rfl⟩
    · have h11 : ¬ (s.size : Int) < 1 := by omega
      have h51 : ¬ (5 : Int) < s.size := by omega
      have HS := Lib.hid (And.intro h1 (And.intro h5 hsz))
      clear h1 h5 hsz hs
      go_enter Tryd.func17, Tryd.ntmps17
      go_wp2
      go_loopw [4, 5] (fun vn vi wr => ∃ (k acc : Nat) (a : Int), vn = .int .i64 a ∧ vi = .int .i64 k ∧ k ≤ s.size ∧ wr = w ∧ Hid (a = (acc : Int) ∧ acc = readO (s.data.toList.take k) ∧ acc < 8 ^ k ∧ (s.data.toList.take k).all isOct = true)) (fun vn vi _ => s.size - (intOf vi).toNat)
      case atStart => exact ⟨0, 0, 0, rfl, rfl, by omega, rfl, Lib.hid ⟨rfl, rfl, by decide, rfl⟩⟩
      case round =>
        obtain ⟨k, acc, a, rfl, rfl, hk, rfl, HA⟩ := hrel
        by_cases hkn : k < s.size
        · have hk1 : (k : Int) < s.size := by omega
          have htk : s.data.toList.take (k + 1) = s.data.toList.take k ++ [s[k]] := by
            rw [List.take_succ_eq_append_getElem (by rw [HS.out.2.2]; exact hkn)]; rfl
          have hg := get_data s k hkn
          by_cases hc : isOct s[k] = true
          · have hcb : 48 ≤ s[k].toNat ∧ s[k].toNat ≤ 55 := by unfold isOct at hc; simpa using hc
            have hacc3 : acc < 4096 := by
              have h16 : 8 ^ k ≤ 8 ^ 4 := Nat.pow_le_pow_right (by decide) (by have := HS.out.2.1; omega)
              have := HA.out.2.2.1
              omega
            have HN : Hid (8 * a + ((s[k].toNat : Int) - 48) = ((8 * acc + (s[k].toNat - 48) : Nat) : Int) ∧ 8 * acc + (s[k].toNat - 48) = readO (s.data.toList.take (k + 1)) ∧ 8 * acc + (s[k].toNat - 48) < 8 ^ (k + 1) ∧ (s.data.toList.take (k + 1)).all isOct = true) :=
              Lib.hid ⟨by rw [HA.out.1]; omega, by rw [htk, readO_app, ← HA.out.2.1], by have := HA.out.2.2.1; rw [Nat.pow_succ]; omega, by rw [htk, List.all_append, HA.out.2.2.2, List.all_cons, hc]; rfl⟩
            have a0 : 0 ≤ a := by rw [HA.out.1]; omega
            have a1 : a ≤ 4095 := by rw [HA.out.1]; omega
            have d1 : (48 : Int) ≤ s[k].toNat := by omega
            have d2 : (s[k].toNat : Int) ≤ 55 := by omega
            clear hc hcb hacc3 htk hg
            go_wp2
            go_roundw
            case rel => exact ⟨k + 1, _, _, rfl, by go_num, by omega, trivial, HN⟩
            case measure => simp [intOf]; omega
          · have ho : octS s.data.toList = none := by
              unfold octS
              rw [if_neg]
              rintro ⟨_, _, h, _⟩
              exact hc (List.all_eq_true.1 h _ (List.mem_of_getElem? hg))
            have HO := Lib.hid ho
            have hc2 := hc
            unfold isOct at hc2
            simp at hc2
            clear ho htk hg
            by_cases h48 : s[k].toNat < 48
            · have d1 : (s[k].toNat : Int) < 48 := by omega
              clear hc hc2 h48
              go_wp2
              exact bodyPost_ret (v := .tuple #[.int .i64 0, .bool false]) (by simp [results, Tryd.results17, go_sem]) rfl ⟨by rw [HO.out]; rfl, rfl⟩
            · have d1 : ¬ (s[k].toNat : Int) < 48 := by omega
              have d2 : (55 : Int) < s[k].toNat := by have := hc2 (by omega); omega
              clear hc hc2 h48
              go_wp2
              exact bodyPost_ret (v := .tuple #[.int .i64 0, .bool false]) (by simp [results, Tryd.results17, go_sem]) rfl ⟨by rw [HO.out]; rfl, rfl⟩
        · have hk1 : ¬ (k : Int) < s.size := by omega
          have hb : s.data.toList.take k = s.data.toList := List.take_of_length_le (by rw [HS.out.2.2]; omega)
          have h16 : 8 ^ k ≤ 8 ^ 5 := Nat.pow_le_pow_right (by decide) (by have := HS.out.2.1; omega)
          have hacc := HA.out.2.2.1
          have hlt : acc < big := by unfold big; omega
          have hR : readO s.data.toList = acc := by rw [HA.out.2.1, hb]
          have hand : bits .andNot .i64 (acc : Int) 3071 = ((acc &&& (18446744073709551615 - 3071) : Nat) : Int) := andNot_nat (b := 3071) hlt (by decide)
          have hall : s.data.toList.all isOct = true := by have := HA.out.2.2.2; rw [hb] at this; exact this
          obtain rfl : a = (acc : Int) := HA.out.1
          by_cases hr : rightB (acc : Int) = true
          · have hz : acc &&& (18446744073709551615 - 3071) = 0 := (andNot_zero (b := 3071) hlt (by decide)).2 ((right_iff hlt).1 hr)
            have ho : octS s.data.toList = some acc := by
              unfold octS
              rw [hR, if_pos ⟨fun h => by have := HS.out; rw [h] at this; simp at this; omega, by have := HS.out; omega, hall, hr⟩]
            rw [hz] at hand
            replace hand : bits .andNot .i64 (acc : Int) 3071 = 0 := hand
            have HO := Lib.hid ho
            clear ho hz hr hall hR hlt hacc h16 hb
            go_wp2
            exact bodyPost_ret (v := .tuple #[.int .i64 acc, .bool true]) (by simp [results, Tryd.results17, go_sem]) rfl ⟨by rw [HO.out]; rfl, rfl⟩
          · have hz : ¬ ((acc &&& (18446744073709551615 - 3071) : Nat) : Int) = 0 := fun h => hr ((right_iff hlt).2 ((andNot_zero (b := 3071) hlt (by decide)).1 (by omega)))
            have ho : octS s.data.toList = none := by
              unfold octS
              rw [hR, if_neg (fun h => hr h.2.2.2)]
            have HO := Lib.hid ho
            generalize ((acc &&& (18446744073709551615 - 3071) : Nat) : Int) = z at *
            clear ho hr hall hR hlt hacc h16 hb
            go_wp2
            exact bodyPost_ret (v := .tuple #[.int .i64 0, .bool false]) (by simp [results, Tryd.results17, go_sem]) rfl ⟨by rw [HO.out]; rfl, rfl⟩
end Go.Proofs.YtpoicdpfjmeehaaDoor
