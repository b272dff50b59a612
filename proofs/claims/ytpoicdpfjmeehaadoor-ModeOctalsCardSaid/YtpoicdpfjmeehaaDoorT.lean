/- The document's bits, and where a byte stands. -/
import Derived.Test.YtpoicdpfjmeehaaDoorA
import Derived.Lib.Hide
import Derived.Deep.CutRange
namespace Go.Proofs.YtpoicdpfjmeehaaDoor
open Go.RowKit

/-- Where a byte stands. -/
def atI (c : UInt8) : Bytes → Int → Int
  | [], _ => -1
  | x :: l, i => if x = c then i else atI c l (i + 1)
theorem atI_drop (c : UInt8) (t : ByteArray) (i : Nat) (h : i < t.size) : atI c (t.data.toList.drop i) i = if t[i] = c then (i : Int) else atI c (t.data.toList.drop (i + 1)) ((i + 1 : Nat) : Int) := by
  have hl : i < t.data.toList.length := by simpa using h
  rw [List.drop_eq_getElem_cons hl, atI]
  rfl
theorem at_any (t : ByteArray) (c : UInt8) (ht : t.size ≤ 100) (w : World) : Calls Tryd.prog 44 #[.string t, .int .u8 c.toNat] w fun e w' => e = .returned (.int .i64 (atI c t.data.toList 0)) ∧ w' = w := by
  go_enter Tryd.func44, Tryd.ntmps44
  go_wp2
  go_loopw [5] (fun v5 wr => ∃ i : Nat, i ≤ t.size ∧ v5 = .int .i64 i ∧ wr = w ∧ Hid (atI c (t.data.toList.drop i) i = atI c t.data.toList 0)) (fun v5 _ => t.size - (intOf v5).toNat)
  case atStart => exact ⟨0, Nat.zero_le _, rfl, rfl, Lib.hid rfl⟩
  case round =>
    obtain ⟨i, hi, rfl, rfl, HH⟩ := hrel
    by_cases hlt : i < t.size
    · have hlt1 : (i : Int) < t.size := by omega
      have HS := Lib.hid ((atI_drop c t i hlt).symm.trans HH.out)
      by_cases hc : t[i] = c
      · have hE : Hid (atI c t.data.toList 0 = i) := Lib.hid (by rw [← HS.out, if_pos hc])
        have hc1 : (t[i].toNat : Int) = c.toNat := by rw [hc]
        clear HH hc
        go_wp2
        go_ret
        exact ⟨by rw [hE.out]; rfl, rfl⟩
      · have hc1 : ¬ (t[i].toNat : Int) = c.toNat := fun h => hc (by apply UInt8.toNat_inj.1; omega)
        have HN : Hid (atI c (t.data.toList.drop (i + 1)) ((i + 1 : Nat) : Int) = atI c t.data.toList 0) := Lib.hid (by rw [← HS.out, if_neg hc])
        clear HH hc
        go_wp2
        go_roundw
        case rel => exact ⟨i + 1, by omega, by go_num, trivial, HN⟩
        case measure => simp [intOf]; omega
    · have hlt1 : ¬ (i : Int) < t.size := by omega
      have hE : Hid (atI c t.data.toList 0 = -1) := Lib.hid (by rw [← HH.out, List.drop_of_length_le (by simp; omega)]; rfl)
      clear HH
      go_wp2
      go_ret
      exact ⟨by rw [hE.out]; rfl, rfl⟩

/-- Bits of a number, for each that is named. -/
def rmask (n wn : Nat) : Nat → Nat
  | 0 => 0
  | i + 1 => if (wn / 2 ^ i) &&& 1 = 1 then rmask n wn i ||| (n * 2 ^ (3 * i)) else rmask n wn i
theorem rmask_lt {n wn : Nat} (hn : n < 8) : ∀ i, i ≤ 3 → rmask n wn i < 512
  | 0, _ => (by decide : 0 < 512)
  | i + 1, h => by
    have ih := rmask_lt (wn := wn) hn i (by omega)
    have hp : n * 2 ^ (3 * i) < 512 := by
      obtain rfl | rfl | rfl : i = 0 ∨ i = 1 ∨ i = 2 := by omega
      all_goals omega
    rw [rmask]
    split
    · exact Nat.or_lt_two_pow (n := 9) ih hp
    · exact ih
theorem rm_step {q wn i : Nat} (hq : q < 8) (hi : i < 3) (hz : wn / 2 ^ i &&& 1 = 1) : bits .or .i64 ((rmask q wn i : Nat) : Int) (wrap64 ((q : Int) * 2 ^ (3 * i))) = ((rmask q wn (i + 1) : Nat) : Int) := by
  have hp : q * 2 ^ (3 * i) < 512 := by
    obtain rfl | rfl | rfl : i = 0 ∨ i = 1 ∨ i = 2 := by omega
    all_goals omega
  have h1 : wrap64 ((q : Int) * 2 ^ (3 * i)) = ((q * 2 ^ (3 * i) : Nat) : Int) := by
    have h2 : (q : Int) * 2 ^ (3 * i) = ((q * 2 ^ (3 * i) : Nat) : Int) := by simp
    rw [h2]
    exact IntWalk.wrap64_in _ ⟨by omega, by omega⟩
  rw [h1, rmask, if_pos hz]
  exact or_nat (by have := rmask_lt (wn := wn) hq i (by omega); unfold big; omega) (by unfold big; omega)
theorem rm_step1 {wn i : Nat} (hi : i < 3) (hz : wn / 2 ^ i &&& 1 = 1) : bits .or .i64 ((rmask 1 wn i : Nat) : Int) (wrap64 (2 ^ (3 * i))) = ((rmask 1 wn (i + 1) : Nat) : Int) := by
  have := rm_step (q := 1) (by decide) hi hz
  simpa using this
theorem rm_step0 {wn i : Nat} (hi : i < 3) (hz : wn / 2 ^ i &&& 1 = 1) : bits .or .i64 ((rmask 0 wn i : Nat) : Int) 0 = ((rmask 0 wn (i + 1) : Nat) : Int) := by
  have := rm_step (q := 0) (by decide) hi hz
  have h0 : wrap64 (((0 : Nat) : Int) * 2 ^ (3 * i)) = 0 := by simp [wrap64]
  rw [h0] at this
  exact this
/-- A letter's bits, once for each that is named. -/
def rlet (c : UInt8) (m : Nat) (dir : Bool) : Nat :=
  if c = 114 then 4 else if c = 119 then 2 else if c = 120 then 1 else if (dir || !((m &&& 73) == 0)) = true then 1 else 0
def rbits (c : UInt8) (wn m : Nat) (dir : Bool) : Nat :=
  if c = 115 then (if wn &&& 4 = 0 then 0 else 2048) else if c = 116 then (if wn &&& 1 = 0 then 0 else 512) else rmask (rlet c m dir) wn 3
def RBPost (x : Nat) (w : World) (e : Ending) (w' : World) : Prop := e = .returned (.int .i64 (x : Nat)) ∧ w' = w

set_option maxHeartbeats 2000000 in
theorem rbits_any (c : UInt8) (wn m : Nat) (dir : Bool) (hc : c = 114 ∨ c = 119 ∨ c = 120 ∨ c = 88 ∨ c = 115 ∨ c = 116) (hw : wn < 8) (hm : m < 4096) (w : World) :
    Calls Tryd.prog 45 #[.int .u8 c.toNat, .int .i64 wn, .int .i64 m, .bool dir] w (RBPost (rbits c wn m dir) w) := by
  have f4 : bits .and .i64 (wn : Int) 4 = ((wn &&& 4 : Nat) : Int) := and_nat (b := 4) (by unfold big; omega) (by decide)
  have f1 : bits .and .i64 (wn : Int) 1 = ((wn &&& 1 : Nat) : Int) := and_nat (b := 1) (by unfold big; omega) (by decide)
  have fm : bits .and .i64 (m : Int) 73 = ((m &&& 73 : Nat) : Int) := and_nat (b := 73) (by unfold big; omega) (by decide)
  by_cases h115 : c = 115
  · subst h115
    have hr : rbits 115 wn m dir = if wn &&& 4 = 0 then 0 else 2048 := rfl
    rw [hr]
    clear hr f1 fm hm hc
    generalize wn &&& 4 = z at *
    show Calls Tryd.prog 45 #[.int .u8 115, .int .i64 wn, .int .i64 m, .bool dir] w _
    by_cases hz : z = 0
    · subst hz
      go_enter Tryd.func45, Tryd.ntmps45
      go_wp2
      go_ret
      exact ⟨rfl, rfl⟩
    · have hz1 : ¬ (z : Int) = 0 := by omega
      rw [if_neg hz]
      go_enter Tryd.func45, Tryd.ntmps45
      go_wp2
      go_ret
      exact ⟨rfl, rfl⟩
  by_cases h116 : c = 116
  · subst h116
    have hr : rbits 116 wn m dir = if wn &&& 1 = 0 then 0 else 512 := rfl
    rw [hr]
    clear hr f4 fm hm hc
    generalize wn &&& 1 = z at *
    show Calls Tryd.prog 45 #[.int .u8 116, .int .i64 wn, .int .i64 m, .bool dir] w _
    by_cases hz : z = 0
    · subst hz
      go_enter Tryd.func45, Tryd.ntmps45
      go_wp2
      go_ret
      exact ⟨rfl, rfl⟩
    · have hz1 : ¬ (z : Int) = 0 := by omega
      rw [if_neg hz]
      go_enter Tryd.func45, Tryd.ntmps45
      go_wp2
      go_ret
      exact ⟨rfl, rfl⟩
  have hr : rbits c wn m dir = rmask (rlet c m dir) wn 3 := by unfold rbits; rw [if_neg h115, if_neg h116]
  rw [hr]
  have hlt8 : rlet c m dir < 8 := by unfold rlet; repeat' split
                                     all_goals omega
  have HR : Hid (rlet c m dir = if c = 114 then 4 else if c = 119 then 2 else if c = 120 then 1 else if (dir || !((m &&& 73) == 0)) = true then 1 else 0) := Lib.hid rfl
  generalize rlet c m dir = q at *
  generalize m &&& 73 = y at *
  clear hr f4 f1 hm
  go_enter Tryd.func45, Tryd.ntmps45
  have hpre : ∀ i : Nat, i < 3 → bits .and .i64 ((wn : Int) / 2 ^ i) 1 = ((wn / 2 ^ i &&& 1 : Nat) : Int) := fun i hi => by
    have h1 : (wn : Int) / 2 ^ i = ((wn / 2 ^ i : Nat) : Int) := by simp
    rw [h1]
    exact and_nat (b := 1) (by have := Nat.div_le_self wn (2 ^ i); unfold big; omega) (by decide)
  have HPRE := Lib.hid hpre
  have HLT := Lib.hid hlt8
  have HRR := HR.out
  clear hpre hlt8 HR
  rcases hc with rfl | rfl | rfl | rfl | rfl | rfl
  case inr.inr.inr.inr.inl => exact absurd rfl h115
  case inr.inr.inr.inr.inr => exact absurd rfl h116
  case inr.inr.inr.inl =>
    by_cases hd : dir = true
    · subst hd
      obtain rfl : q = 1 := HRR
      clear fm h115 h116
      go_wp2
      go_loopw [10, 11] (fun v10 v11 wr => ∃ i : Nat, i ≤ 3 ∧ v11 = .int .i64 i ∧ wr = w ∧ v10 = .int .i64 (rmask 1 wn i : Nat)) (fun v10 v11 _ => 3 - (intOf v11).toNat)
      case atStart => exact ⟨0, by omega, rfl, rfl, rfl⟩
      case round =>
        obtain ⟨i, hi, rfl, rfl, rfl⟩ := hrel
        by_cases hlt : i < 3
        · have hlt1 : (i : Int) < 3 := by omega
          have e1 := HPRE.out i hlt
          have HM : Hid (rmask 1 wn (i + 1) = if (wn / 2 ^ i) &&& 1 = 1 then rmask 1 wn i ||| (1 * 2 ^ (3 * i)) else rmask 1 wn i) := Lib.hid rfl
          have h3 : IntKind.i64.wrap (3 * (i : Int)) = ((3 * i : Nat) : Int) := by rw [IntKind.wrap_i64]; omega
          obtain ⟨z, hzz⟩ : ∃ z, wn / 2 ^ i &&& 1 = z := ⟨_, rfl⟩
          rw [hzz] at e1
          have HZ : Hid (z = wn / 2 ^ i &&& 1) := Lib.hid hzz.symm
          by_cases hz : z = 1
          · have HS := Lib.hid (rm_step1 hlt (HZ.out.symm.trans hz))
            subst hz
            clear HZ hzz
            go_wp2
            go_roundw
            case rel => exact ⟨i + 1, by omega, by go_num, trivial, congrArg (Value.int .i64) HS.out⟩
            case measure => simp [intOf]; omega
          · have hz1 : ¬ (z : Int) = 1 := by omega
            have HN : Hid (rmask 1 wn (i + 1) = rmask 1 wn i) := Lib.hid (by rw [HM.out, ← HZ.out, if_neg hz])
            clear hz HZ hzz
            go_wp2
            go_roundw
            case rel => exact ⟨i + 1, by omega, by go_num, trivial, by rw [HN.out]⟩
            case measure => simp [intOf]; omega
        · obtain rfl : i = 3 := by omega
          go_wp2
          go_ret
          exact ⟨rfl, rfl⟩
    · obtain rfl : dir = false := by simpa using hd
      by_cases hy : y = 0
      · subst hy
        obtain rfl : q = 0 := HRR
        clear h115 h116 hd
        go_wp2
        go_loopw [10, 11] (fun v10 v11 wr => ∃ i : Nat, i ≤ 3 ∧ v11 = .int .i64 i ∧ wr = w ∧ v10 = .int .i64 (rmask 0 wn i : Nat)) (fun v10 v11 _ => 3 - (intOf v11).toNat)
        case atStart => exact ⟨0, by omega, rfl, rfl, rfl⟩
        case round =>
          obtain ⟨i, hi, rfl, rfl, rfl⟩ := hrel
          by_cases hlt : i < 3
          · have hlt1 : (i : Int) < 3 := by omega
            have e1 := HPRE.out i hlt
            have HM : Hid (rmask 0 wn (i + 1) = if (wn / 2 ^ i) &&& 1 = 1 then rmask 0 wn i ||| (0 * 2 ^ (3 * i)) else rmask 0 wn i) := Lib.hid rfl
            have h3 : IntKind.i64.wrap (3 * (i : Int)) = ((3 * i : Nat) : Int) := by rw [IntKind.wrap_i64]; omega
            obtain ⟨z, hzz⟩ : ∃ z, wn / 2 ^ i &&& 1 = z := ⟨_, rfl⟩
            rw [hzz] at e1
            have HZ : Hid (z = wn / 2 ^ i &&& 1) := Lib.hid hzz.symm
            by_cases hz : z = 1
            · have HS := Lib.hid (rm_step0 hlt (HZ.out.symm.trans hz))
              subst hz
              clear HZ hzz
              go_wp2
              go_roundw
              case rel => exact ⟨i + 1, by omega, by go_num, trivial, congrArg (Value.int .i64) HS.out⟩
              case measure => simp [intOf]; omega
            · have hz1 : ¬ (z : Int) = 1 := by omega
              have HN : Hid (rmask 0 wn (i + 1) = rmask 0 wn i) := Lib.hid (by rw [HM.out, ← HZ.out, if_neg hz])
              clear hz HZ hzz
              go_wp2
              go_roundw
              case rel => exact ⟨i + 1, by omega, by go_num, trivial, by rw [HN.out]⟩
              case measure => simp [intOf]; omega
          · obtain rfl : i = 3 := by omega
            go_wp2
            go_ret
            exact ⟨rfl, rfl⟩
      · have hy1 : ¬ (y : Int) = 0 := by omega
        obtain rfl : q = 1 := by rw [HRR]; simp [hy]
        clear h115 h116 hd hy HRR
        go_wp2
        go_loopw [10, 11] (fun v10 v11 wr => ∃ i : Nat, i ≤ 3 ∧ v11 = .int .i64 i ∧ wr = w ∧ v10 = .int .i64 (rmask 1 wn i : Nat)) (fun v10 v11 _ => 3 - (intOf v11).toNat)
        case atStart => exact ⟨0, by omega, rfl, rfl, rfl⟩
        case round =>
          obtain ⟨i, hi, rfl, rfl, rfl⟩ := hrel
          by_cases hlt : i < 3
          · have hlt1 : (i : Int) < 3 := by omega
            have e1 := HPRE.out i hlt
            have HM : Hid (rmask 1 wn (i + 1) = if (wn / 2 ^ i) &&& 1 = 1 then rmask 1 wn i ||| (1 * 2 ^ (3 * i)) else rmask 1 wn i) := Lib.hid rfl
            have h3 : IntKind.i64.wrap (3 * (i : Int)) = ((3 * i : Nat) : Int) := by rw [IntKind.wrap_i64]; omega
            obtain ⟨z, hzz⟩ : ∃ z, wn / 2 ^ i &&& 1 = z := ⟨_, rfl⟩
            rw [hzz] at e1
            have HZ : Hid (z = wn / 2 ^ i &&& 1) := Lib.hid hzz.symm
            by_cases hz : z = 1
            · have HS := Lib.hid (rm_step1 hlt (HZ.out.symm.trans hz))
              subst hz
              clear HZ hzz
              go_wp2
              go_roundw
              case rel => exact ⟨i + 1, by omega, by go_num, trivial, congrArg (Value.int .i64) HS.out⟩
              case measure => simp [intOf]; omega
            · have hz1 : ¬ (z : Int) = 1 := by omega
              have HN : Hid (rmask 1 wn (i + 1) = rmask 1 wn i) := Lib.hid (by rw [HM.out, ← HZ.out, if_neg hz])
              clear hz HZ hzz
              go_wp2
              go_roundw
              case rel => exact ⟨i + 1, by omega, by go_num, trivial, by rw [HN.out]⟩
              case measure => simp [intOf]; omega
          · obtain rfl : i = 3 := by omega
            go_wp2
            go_ret
            exact ⟨rfl, rfl⟩
  · obtain rfl : q = 4 := HRR
    clear fm h115 h116
    go_wp2
    go_loopw [10, 11] (fun v10 v11 wr => ∃ i : Nat, i ≤ 3 ∧ v11 = .int .i64 i ∧ wr = w ∧ v10 = .int .i64 (rmask 4 wn i : Nat)) (fun v10 v11 _ => 3 - (intOf v11).toNat)
    case atStart => exact ⟨0, by omega, rfl, rfl, rfl⟩
    case round =>
      obtain ⟨i, hi, rfl, rfl, rfl⟩ := hrel
      by_cases hlt : i < 3
      · have hlt1 : (i : Int) < 3 := by omega
        have e1 := HPRE.out i hlt
        have HM : Hid (rmask 4 wn (i + 1) = if (wn / 2 ^ i) &&& 1 = 1 then rmask 4 wn i ||| (4 * 2 ^ (3 * i)) else rmask 4 wn i) := Lib.hid rfl
        have h3 : IntKind.i64.wrap (3 * (i : Int)) = ((3 * i : Nat) : Int) := by rw [IntKind.wrap_i64]; omega
        obtain ⟨z, hzz⟩ : ∃ z, wn / 2 ^ i &&& 1 = z := ⟨_, rfl⟩
        rw [hzz] at e1
        have HZ : Hid (z = wn / 2 ^ i &&& 1) := Lib.hid hzz.symm
        by_cases hz : z = 1
        · have HS := Lib.hid (rm_step (q := 4) (by decide) hlt (HZ.out.symm.trans hz))
          subst hz
          clear HZ hzz
          go_wp2
          go_roundw
          case rel => exact ⟨i + 1, by omega, by go_num, trivial, congrArg (Value.int .i64) HS.out⟩
          case measure => simp [intOf]; omega
        · have hz1 : ¬ (z : Int) = 1 := by omega
          have HN : Hid (rmask 4 wn (i + 1) = rmask 4 wn i) := Lib.hid (by rw [HM.out, ← HZ.out, if_neg hz])
          clear hz HZ hzz
          go_wp2
          go_roundw
          case rel => exact ⟨i + 1, by omega, by go_num, trivial, by rw [HN.out]⟩
          case measure => simp [intOf]; omega
      · obtain rfl : i = 3 := by omega
        go_wp2
        go_ret
        exact ⟨rfl, rfl⟩
  · obtain rfl : q = 2 := HRR
    clear fm h115 h116
    go_wp2
    go_loopw [10, 11] (fun v10 v11 wr => ∃ i : Nat, i ≤ 3 ∧ v11 = .int .i64 i ∧ wr = w ∧ v10 = .int .i64 (rmask 2 wn i : Nat)) (fun v10 v11 _ => 3 - (intOf v11).toNat)
    case atStart => exact ⟨0, by omega, rfl, rfl, rfl⟩
    case round =>
      obtain ⟨i, hi, rfl, rfl, rfl⟩ := hrel
      by_cases hlt : i < 3
      · have hlt1 : (i : Int) < 3 := by omega
        have e1 := HPRE.out i hlt
        have HM : Hid (rmask 2 wn (i + 1) = if (wn / 2 ^ i) &&& 1 = 1 then rmask 2 wn i ||| (2 * 2 ^ (3 * i)) else rmask 2 wn i) := Lib.hid rfl
        have h3 : IntKind.i64.wrap (3 * (i : Int)) = ((3 * i : Nat) : Int) := by rw [IntKind.wrap_i64]; omega
        obtain ⟨z, hzz⟩ : ∃ z, wn / 2 ^ i &&& 1 = z := ⟨_, rfl⟩
        rw [hzz] at e1
        have HZ : Hid (z = wn / 2 ^ i &&& 1) := Lib.hid hzz.symm
        by_cases hz : z = 1
        · have HS := Lib.hid (rm_step (q := 2) (by decide) hlt (HZ.out.symm.trans hz))
          subst hz
          clear HZ hzz
          go_wp2
          go_roundw
          case rel => exact ⟨i + 1, by omega, by go_num, trivial, congrArg (Value.int .i64) HS.out⟩
          case measure => simp [intOf]; omega
        · have hz1 : ¬ (z : Int) = 1 := by omega
          have HN : Hid (rmask 2 wn (i + 1) = rmask 2 wn i) := Lib.hid (by rw [HM.out, ← HZ.out, if_neg hz])
          clear hz HZ hzz
          go_wp2
          go_roundw
          case rel => exact ⟨i + 1, by omega, by go_num, trivial, by rw [HN.out]⟩
          case measure => simp [intOf]; omega
      · obtain rfl : i = 3 := by omega
        go_wp2
        go_ret
        exact ⟨rfl, rfl⟩
  · obtain rfl : q = 1 := HRR
    clear fm h115 h116
    go_wp2
    go_loopw [10, 11] (fun v10 v11 wr => ∃ i : Nat, i ≤ 3 ∧ v11 = .int .i64 i ∧ wr = w ∧ v10 = .int .i64 (rmask 1 wn i : Nat)) (fun v10 v11 _ => 3 - (intOf v11).toNat)
    case atStart => exact ⟨0, by omega, rfl, rfl, rfl⟩
    case round =>
      obtain ⟨i, hi, rfl, rfl, rfl⟩ := hrel
      by_cases hlt : i < 3
      · have hlt1 : (i : Int) < 3 := by omega
        have e1 := HPRE.out i hlt
        have HM : Hid (rmask 1 wn (i + 1) = if (wn / 2 ^ i) &&& 1 = 1 then rmask 1 wn i ||| (1 * 2 ^ (3 * i)) else rmask 1 wn i) := Lib.hid rfl
        have h3 : IntKind.i64.wrap (3 * (i : Int)) = ((3 * i : Nat) : Int) := by rw [IntKind.wrap_i64]; omega
        obtain ⟨z, hzz⟩ : ∃ z, wn / 2 ^ i &&& 1 = z := ⟨_, rfl⟩
        rw [hzz] at e1
        have HZ : Hid (z = wn / 2 ^ i &&& 1) := Lib.hid hzz.symm
        by_cases hz : z = 1
        · have HS := Lib.hid (rm_step1 hlt (HZ.out.symm.trans hz))
          subst hz
          clear HZ hzz
          go_wp2
          go_roundw
          case rel => exact ⟨i + 1, by omega, by go_num, trivial, congrArg (Value.int .i64) HS.out⟩
          case measure => simp [intOf]; omega
        · have hz1 : ¬ (z : Int) = 1 := by omega
          have HN : Hid (rmask 1 wn (i + 1) = rmask 1 wn i) := Lib.hid (by rw [HM.out, ← HZ.out, if_neg hz])
          clear hz HZ hzz
          go_wp2
          go_roundw
          case rel => exact ⟨i + 1, by omega, by go_num, trivial, by rw [HN.out]⟩
          case measure => simp [intOf]; omega
      · obtain rfl : i = 3 := by omega
        go_wp2
        go_ret
        exact ⟨rfl, rfl⟩

/-- All bits of those named. -/
def rmine (wn : Nat) : Nat :=
  let x := rmask 7 wn 3
  let y := if wn &&& 4 = 0 then x else x ||| 2048
  if wn &&& 1 = 0 then y else y ||| 512
set_option maxHeartbeats 1000000 in
theorem mine_any (wn : Nat) (hw : wn < 8) (w : World) : Calls Tryd.prog 46 #[.int .i64 wn] w (RBPost (rmine wn) w) := by
  have f4 : bits .and .i64 (wn : Int) 4 = ((wn &&& 4 : Nat) : Int) := and_nat (b := 4) (by unfold big; omega) (by decide)
  have f1 : bits .and .i64 (wn : Int) 1 = ((wn &&& 1 : Nat) : Int) := and_nat (b := 1) (by unfold big; omega) (by decide)
  have hpre : ∀ i : Nat, i < 3 → bits .and .i64 ((wn : Int) / 2 ^ i) 1 = ((wn / 2 ^ i &&& 1 : Nat) : Int) := fun i hi => by
    have h1 : (wn : Int) / 2 ^ i = ((wn / 2 ^ i : Nat) : Int) := by simp
    rw [h1]
    exact and_nat (b := 1) (by have := Nat.div_le_self wn (2 ^ i); unfold big; omega) (by decide)
  have HPRE := Lib.hid hpre
  clear hpre
  have HE : Hid (rmine wn = (if wn &&& 1 = 0 then (if wn &&& 4 = 0 then rmask 7 wn 3 else rmask 7 wn 3 ||| 2048) else (if wn &&& 4 = 0 then rmask 7 wn 3 else rmask 7 wn 3 ||| 2048) ||| 512)) := Lib.hid rfl
  generalize rmine wn = E at *
  generalize wn &&& 4 = z4 at *
  obtain ⟨z1, hz1⟩ : ∃ z1, wn &&& 1 = z1 := ⟨_, rfl⟩
  rw [hz1] at f1 HE
  clear hz1
  have F := Lib.hid (And.intro f4 f1)
  clear f4 f1
  go_enter Tryd.func46, Tryd.ntmps46
  go_wp2
  go_loopw [3, 4] (fun v3 v4 wr => ∃ i : Nat, i ≤ 3 ∧ v4 = .int .i64 i ∧ wr = w ∧ v3 = .int .i64 (rmask 7 wn i : Nat)) (fun v3 v4 _ => 3 - (intOf v4).toNat)
  case atStart => exact ⟨0, by omega, rfl, rfl, rfl⟩
  case round =>
    obtain ⟨i, hi, rfl, rfl, rfl⟩ := hrel
    by_cases hlt : i < 3
    · have hlt1 : (i : Int) < 3 := by omega
      have e1 := HPRE.out i hlt
      have HM : Hid (rmask 7 wn (i + 1) = if (wn / 2 ^ i) &&& 1 = 1 then rmask 7 wn i ||| (7 * 2 ^ (3 * i)) else rmask 7 wn i) := Lib.hid rfl
      have h3 : IntKind.i64.wrap (3 * (i : Int)) = ((3 * i : Nat) : Int) := by rw [IntKind.wrap_i64]; omega
      obtain ⟨z, hzz⟩ : ∃ z, wn / 2 ^ i &&& 1 = z := ⟨_, rfl⟩
      rw [hzz] at e1
      have HZ : Hid (z = wn / 2 ^ i &&& 1) := Lib.hid hzz.symm
      by_cases hz : z = 1
      · have HS := Lib.hid (rm_step (q := 7) (by decide) hlt (HZ.out.symm.trans hz))
        subst hz
        clear HZ hzz
        go_wp2
        go_roundw
        case rel => exact ⟨i + 1, by omega, by go_num, trivial, congrArg (Value.int .i64) HS.out⟩
        case measure => simp [intOf]; omega
      · have hz1 : ¬ (z : Int) = 1 := by omega
        have HN : Hid (rmask 7 wn (i + 1) = rmask 7 wn i) := Lib.hid (by rw [HM.out, ← HZ.out, if_neg hz])
        clear hz HZ hzz
        go_wp2
        go_roundw
        case rel => exact ⟨i + 1, by omega, by go_num, trivial, by rw [HN.out]⟩
        case measure => simp [intOf]; omega
    · obtain rfl : i = 3 := by omega
      have f4 := F.out.1
      have f1 := F.out.2
      have hl := rmask_lt (n := 7) (wn := wn) (by decide) 3 (by omega)
      generalize rmask 7 wn 3 = x at *
      have o1 : bits .or .i64 (x : Int) 2048 = ((x ||| 2048 : Nat) : Int) := or_nat (b := 2048) (by unfold big; omega) (by decide)
      have o2 : bits .or .i64 (x : Int) 512 = ((x ||| 512 : Nat) : Int) := or_nat (b := 512) (by unfold big; omega) (by decide)
      have hl2 : x ||| 2048 < 4096 := Nat.or_lt_two_pow (n := 12) (by omega) (by decide)
      generalize x ||| 2048 = x2 at *
      have o3 : bits .or .i64 (x2 : Int) 512 = ((x2 ||| 512 : Nat) : Int) := or_nat (b := 512) (by unfold big; omega) (by decide)
      clear hl hl2
      by_cases h4 : z4 = 0
      · by_cases h1 : z1 = 0
        · subst h4; subst h1
          obtain rfl : E = x := by rw [HE.out]; rfl
          go_wp2
          go_ret
          exact ⟨rfl, rfl⟩
        · have n1 : ¬ (z1 : Int) = 0 := by omega
          obtain rfl : E = x ||| 512 := by rw [HE.out, if_neg h1, if_pos h4]
          subst h4
          clear h1 HE
          go_wp2
          go_ret
          exact ⟨by rw [← o2]; rfl, rfl⟩
      · have n4 : ¬ (z4 : Int) = 0 := by omega
        by_cases h1 : z1 = 0
        · obtain rfl : E = x2 := by rw [HE.out, if_pos h1, if_neg h4]
          subst h1
          clear h4 HE
          go_wp2
          go_ret
          exact ⟨rfl, rfl⟩
        · have n1 : ¬ (z1 : Int) = 0 := by omega
          obtain rfl : E = x2 ||| 512 := by rw [HE.out, if_neg h1, if_neg h4]
          clear h1 h4 HE
          go_wp2
          go_ret
          exact ⟨by rw [← o3]; rfl, rfl⟩
end Go.Proofs.YtpoicdpfjmeehaaDoor
