/- Text: a mode as it is listed. -/
import Derived.Test.YtpoicdpfjmeehaaDoorB
import Derived.Test.YtpoicdpfjmeehaaDoorW
import Derived.Test.YtpoicdpfjmeehaaDoorShelf
namespace Go.Proofs.YtpoicdpfjmeehaaDoor
open Go.RowKit

/-- The letter of a place. -/
def lett (i : Nat) : UInt8 := if i % 3 = 0 then 114 else if i % 3 = 1 then 119 else 120
/-- A byte of a mode's text. -/
def tb (m i : Nat) : UInt8 :=
  let c := if (m * 2 ^ i) &&& 256 = 0 then 45 else lett i
  let sp : UInt8 := if i = 2 ∧ ¬ m &&& 2048 = 0 then 115 else if i = 8 ∧ ¬ m &&& 512 = 0 then 116 else 0
  if sp = 0 then c else if c = 45 then sp - 32 else sp
def tbs (m : Nat) : Nat → Bytes
  | 0 => []
  | i + 1 => tbs m i ++ [tb m i]
def khead (k : Nat) : UInt8 := if k = 0 then 45 else if k = 1 then 100 else 99
def textS (k m : Nat) : Bytes := khead k :: tbs m 9
theorem tbs_len (m : Nat) : ∀ i, (tbs m i).length = i
  | 0 => rfl
  | i + 1 => by simp [tbs, tbs_len m i]

theorem at_new (w : World) (o : Obj) : (w.alloc o).heap[w.heap.size]? = some o := by
  show (w.heap.push o)[w.heap.size]? = some o
  simp
theorem byteCells_app (l : Bytes) (c : UInt8) : Lib.byteCells (l ++ [c]) = Lib.byteCells l ++ [.int .u8 (c.toNat : Int)] := by simp [Lib.byteCells]

set_option maxHeartbeats 2000000 in
theorem text_any (k m : Nat) (hk : k ≤ 2) (hr : rightB (m : Int) = true) (hm : m ≤ 3071) (w : World) :
    Calls Tryd.prog 18 #[.int .i64 k, .int .i64 m] w fun e w' => ∃ s : ByteArray, s.data.toList = textS k m ∧ e = .returned (.string s) ∧ Below w.heap.size w w' := by
  have hk1 : ¬ (k : Int) < 0 := by omega
  have hk2 : ¬ 2 < (k : Int) := by omega
  have hk3 : (k : Int) < 3 := by omega
  have HK := Lib.hid hk
  have HM := Lib.hid hm
  clear hk hm
  go_enter Tryd.func18, Tryd.ntmps18
  go_wp2_with fail
  refine (right_any _ _).mono ?_
  rintro e w' ⟨he, rfl⟩
  rw [hr] at he
  subst he
  clear hr
  have hI : Lib.IsBuilder 45 5 w'.heap.size w'.heap.size [] (w'.alloc (Obj.cells #[.pointer none, .slice none 0 0] 45)) :=
    .inl ⟨Nat.le_refl _, .slice none 0 0, at_new _ _, ⟨rfl, .inl ⟨rfl, rfl⟩⟩, by simp [Value.ownBlock]⟩
  have hb0 : Below w'.heap.size w' (w'.alloc (Obj.cells #[.pointer none, .slice none 0 0] 45)) := (Below.refl _ _).alloc (Nat.le_refl _) _
  have hx : ∀ h : k < (⟨#[45, 100, 99]⟩ : ByteArray).size, (⟨#[45, 100, 99]⟩ : ByteArray)[k]'h = khead k := fun h => by
    obtain rfl | rfl | rfl : k = 0 ∨ k = 1 ∨ k = 2 := by have := HK.out; omega
    all_goals rfl
  go_wp2_with fail
  clear hx
  refine (Tryd.Builder_WriteByte w'.heap.size w'.heap.size [] _ _ hI (by decide) hb0.size).mono ?_
  rintro e w1 ⟨rfl, hi1, hb1⟩
  have HI1 : Hid (Lib.IsBuilder 45 5 w'.heap.size w'.heap.size (Lib.byteCells (khead k :: tbs m 0)) w1) := Lib.hid (.inr hi1)
  have HB1 := Lib.hid (hb0.trans hb1)
  clear hI hb0 hi1 hb1
  go_wp2
  go_loopw [6, 7, 8, 23] (fun v6 v7 v8 v23 wr => ∃ i : Nat, i ≤ 9 ∧ v23 = .int .i64 i ∧ Hid (Lib.IsBuilder 45 5 w'.heap.size w'.heap.size (Lib.byteCells (khead k :: tbs m i)) wr ∧ Below w'.heap.size w' wr)) (fun v6 v7 v8 v23 _ => 9 - (intOf v23).toNat)
  case atStart => exact ⟨0, by omega, rfl, Lib.hid ⟨HI1.out, HB1.out⟩⟩
  case round =>
    obtain ⟨i, hi9, rfl, HH⟩ := hrel
    by_cases hlt : i < 9
    · have hi1 : (i : Int) < 9 := by omega
      have hl : ∀ h : i < (⟨#[114, 119, 120, 114, 119, 120, 114, 119, 120]⟩ : ByteArray).size, (⟨#[114, 119, 120, 114, 119, 120, 114, 119, 120]⟩ : ByteArray)[i]'h = lett i := fun h => by
        obtain rfl | rfl | rfl | rfl | rfl | rfl | rfl | rfl | rfl : i = 0 ∨ i = 1 ∨ i = 2 ∨ i = 3 ∨ i = 4 ∨ i = 5 ∨ i = 6 ∨ i = 7 ∨ i = 8 := by omega
        all_goals rfl
      have hnext : ∀ c : UInt8, tb m i = c → ∀ w2, Lib.BuilderAt 45 5 w'.heap.size w'.heap.size (.pointer (some ⟨w'.heap.size, 0, none⟩)) (Lib.byteCells (khead k :: tbs m i) ++ [.int .u8 (c.toNat : Int)]) w2 → Lib.IsBuilder 45 5 w'.heap.size w'.heap.size (Lib.byteCells (khead k :: tbs m (i + 1))) w2 := fun c hc w2 h => by
        rw [show (khead k :: tbs m (i + 1)) = (khead k :: tbs m i) ++ [c] by rw [← hc]; rfl, byteCells_app]
        exact .inr h
      have HNX := Lib.hid hnext
      have hi9' : i ≤ 8 := by omega
      clear hnext hi9 hlt
      have LEN : ∀ i, (Lib.byteCells (khead k :: tbs m i)).length + 1 ≤ 140737488355328 ∨ 100 < i := fun i => by
        rcases Nat.lt_or_ge 100 i with h | h
        · exact .inr h
        · refine .inl ?_
          simp [Lib.byteCells, tbs_len]
          omega
      have hlen : (Lib.byteCells (khead k :: tbs m i)).length + 1 ≤ 140737488355328 := by
        rcases LEN i with h | h
        · exact h
        · omega
      clear LEN
      have HLEN := Lib.hid hlen
      clear hlen
      have hp : m * 2 ^ i < big := by
        have h1 : 2 ^ i ≤ 2 ^ 8 := Nat.pow_le_pow_right (by decide) hi9'
        have h2 : m * 2 ^ i ≤ 3071 * 2 ^ 8 := Nat.mul_le_mul HM.out h1
        unfold big; omega
      have hb : bits .and .i64 (wrap64 ((m : Int) * 2 ^ i)) 256 = ((m * 2 ^ i &&& 256 : Nat) : Int) := by
        have h1 : wrap64 ((m : Int) * 2 ^ i) = ((m * 2 ^ i : Nat) : Int) := by
          have h2 : (m : Int) * 2 ^ i = ((m * 2 ^ i : Nat) : Int) := by simp
          rw [h2]
          exact IntWalk.wrap64_in _ ⟨by omega, by unfold big at hp; omega⟩
        rw [h1]
        exact and_nat (b := 256) hp (by decide)
      have hb2 : bits .and .i64 (m : Int) 2048 = ((m &&& 2048 : Nat) : Int) := and_nat (b := 2048) (by have := HM.out; unfold big; omega) (by decide)
      have hb8 : bits .and .i64 (m : Int) 512 = ((m &&& 512 : Nat) : Int) := and_nat (b := 512) (by have := HM.out; unfold big; omega) (by decide)
      have HTB : Hid (tb m i = (let c := if (m * 2 ^ i) &&& 256 = 0 then 45 else lett i
        let sp : UInt8 := if i = 2 ∧ ¬ m &&& 2048 = 0 then 115 else if i = 8 ∧ ¬ m &&& 512 = 0 then 116 else 0
        if sp = 0 then c else if c = 45 then sp - 32 else sp)) := Lib.hid rfl
      clear hp
      generalize m * 2 ^ i &&& 256 = z at *
      generalize m &&& 2048 = z2 at *
      generalize m &&& 512 = z8 at *
      have hlt : ¬ lett i = 45 := by unfold lett; split <;> (try split) <;> decide
      have hlt2 : ¬ ((lett i).toNat : Int) = 45 := fun h => hlt (by apply UInt8.toNat_inj.1; show (lett i).toNat = 45; omega)
      have HLT := Lib.hid hlt
      clear hlt
      have HLL : ∃ L, L = lett i := ⟨_, rfl⟩
      obtain ⟨L, hL⟩ := HLL
      have HL0 := Lib.hid hL
      rw [← hL] at hlt2 HTB HLT hl
      clear hL
      by_cases h2 : i = 2
      · have h21 : (i : Int) = 2 := by omega
        have hb' : bits .and .i64 (wrap64 ((m : Int) * 4)) 256 = (z : Int) := by rw [← hb, h2]; rfl
        have H2 := Lib.hid h2
        clear h2
        by_cases hz : z = 0
        · by_cases hz2 : z2 = 0
          · have TB : Hid (tb m i = 45) := Lib.hid (by rw [HTB.out, H2.out]; simp [hz, hz2])
            subst hz hz2
            go_wp2_with (go_at_call 25; refine (Tryd.Builder_WriteByte w'.heap.size w'.heap.size _ _ _ HH.out.1 HLEN.out HH.out.2.size).mono ?_; rintro e w2 ⟨rfl, hi2, hb2⟩)
            go_roundw
            case rel => exact ⟨i + 1, by omega, by go_num, Lib.hid ⟨HNX.out _ TB.out w2 hi2, HH.out.2.trans hb2⟩⟩
            case measure => simp [intOf]; omega
          · have hz3 : ¬ ((z2 : Nat) : Int) = 0 := by omega
            have TB : Hid (tb m i = 83) := Lib.hid (by rw [HTB.out, H2.out]; simp [hz, hz2])
            clear hz2
            subst hz
            go_wp2_with (go_at_call 25; refine (Tryd.Builder_WriteByte w'.heap.size w'.heap.size _ _ _ HH.out.1 HLEN.out HH.out.2.size).mono ?_; rintro e w2 ⟨rfl, hi2, hb2⟩)
            go_roundw
            case rel => exact ⟨i + 1, by omega, by go_num, Lib.hid ⟨HNX.out _ TB.out w2 hi2, HH.out.2.trans hb2⟩⟩
            case measure => simp [intOf]; omega
        · have hz3 : ¬ ((z : Nat) : Int) = 0 := by omega
          by_cases hz2 : z2 = 0
          · have TB : Hid (tb m i = 120) := Lib.hid (by rw [HTB.out, HL0.out, H2.out]; simp [hz, hz2]; rfl)
            clear hz
            subst hz2
            go_wp2_with (go_at_call 25; refine (Tryd.Builder_WriteByte w'.heap.size w'.heap.size _ _ _ HH.out.1 HLEN.out HH.out.2.size).mono ?_; rintro e w2 ⟨rfl, hi2, hb2⟩)
            go_roundw
            case rel => exact ⟨i + 1, by omega, by go_num, Lib.hid ⟨HNX.out _ TB.out w2 hi2, HH.out.2.trans hb2⟩⟩
            case measure => simp [intOf]; omega
          · have hz4 : ¬ ((z2 : Nat) : Int) = 0 := by omega
            have TB : Hid (tb m i = 115) := Lib.hid (by rw [HTB.out, H2.out]; simp [hz, hz2, HLT.out])
            clear hz hz2
            go_wp2_with (go_at_call 25; refine (Tryd.Builder_WriteByte w'.heap.size w'.heap.size _ _ _ HH.out.1 HLEN.out HH.out.2.size).mono ?_; rintro e w2 ⟨rfl, hi2, hb2⟩)
            go_roundw
            case rel => exact ⟨i + 1, by omega, by go_num, Lib.hid ⟨HNX.out _ TB.out w2 hi2, HH.out.2.trans hb2⟩⟩
            case measure => simp [intOf]; omega
      · have h21 : ¬ (i : Int) = 2 := by omega
        by_cases h8 : i = 8
        · have h81 : (i : Int) = 8 := by omega
          have hb' : bits .and .i64 (wrap64 ((m : Int) * 256)) 256 = (z : Int) := by rw [← hb, h8]; rfl
          have H8 := Lib.hid h8
          have H2 := Lib.hid h2
          clear h8 h2
          by_cases hz : z = 0
          · by_cases hz2 : z8 = 0
            · have TB : Hid (tb m i = 45) := Lib.hid (by rw [HTB.out, H8.out]; simp [hz, hz2])
              subst hz hz2
              go_wp2_with (go_at_call 25; refine (Tryd.Builder_WriteByte w'.heap.size w'.heap.size _ _ _ HH.out.1 HLEN.out HH.out.2.size).mono ?_; rintro e w2 ⟨rfl, hi2, hb2⟩)
              go_roundw
              case rel => exact ⟨i + 1, by omega, by go_num, Lib.hid ⟨HNX.out _ TB.out w2 hi2, HH.out.2.trans hb2⟩⟩
              case measure => simp [intOf]; omega
            · have hz3 : ¬ ((z8 : Nat) : Int) = 0 := by omega
              have TB : Hid (tb m i = 84) := Lib.hid (by rw [HTB.out, H8.out]; simp [hz, hz2])
              clear hz2
              subst hz
              go_wp2_with (go_at_call 25; refine (Tryd.Builder_WriteByte w'.heap.size w'.heap.size _ _ _ HH.out.1 HLEN.out HH.out.2.size).mono ?_; rintro e w2 ⟨rfl, hi2, hb2⟩)
              go_roundw
              case rel => exact ⟨i + 1, by omega, by go_num, Lib.hid ⟨HNX.out _ TB.out w2 hi2, HH.out.2.trans hb2⟩⟩
              case measure => simp [intOf]; omega
          · have hz3 : ¬ ((z : Nat) : Int) = 0 := by omega
            by_cases hz2 : z8 = 0
            · have TB : Hid (tb m i = 120) := Lib.hid (by rw [HTB.out, HL0.out, H8.out]; simp [hz, hz2]; rfl)
              clear hz
              subst hz2
              go_wp2_with (go_at_call 25; refine (Tryd.Builder_WriteByte w'.heap.size w'.heap.size _ _ _ HH.out.1 HLEN.out HH.out.2.size).mono ?_; rintro e w2 ⟨rfl, hi2, hb2⟩)
              go_roundw
              case rel => exact ⟨i + 1, by omega, by go_num, Lib.hid ⟨HNX.out _ TB.out w2 hi2, HH.out.2.trans hb2⟩⟩
              case measure => simp [intOf]; omega
            · have hz4 : ¬ ((z8 : Nat) : Int) = 0 := by omega
              have TB : Hid (tb m i = 116) := Lib.hid (by rw [HTB.out, H8.out]; simp [hz, hz2, HLT.out])
              clear hz hz2
              go_wp2_with (go_at_call 25; refine (Tryd.Builder_WriteByte w'.heap.size w'.heap.size _ _ _ HH.out.1 HLEN.out HH.out.2.size).mono ?_; rintro e w2 ⟨rfl, hi2, hb2⟩)
              go_roundw
              case rel => exact ⟨i + 1, by omega, by go_num, Lib.hid ⟨HNX.out _ TB.out w2 hi2, HH.out.2.trans hb2⟩⟩
              case measure => simp [intOf]; omega
        · have h81 : ¬ (i : Int) = 8 := by omega
          by_cases hz : z = 0
          · have TB : Hid (tb m i = 45) := Lib.hid (by rw [HTB.out]; simp [hz, h2, h8])
            clear h2 h8
            subst hz
            go_wp2_with (go_at_call 25; refine (Tryd.Builder_WriteByte w'.heap.size w'.heap.size _ _ _ HH.out.1 HLEN.out HH.out.2.size).mono ?_; rintro e w2 ⟨rfl, hi2, hb2⟩)
            go_roundw
            case rel => exact ⟨i + 1, by omega, by go_num, Lib.hid ⟨HNX.out _ TB.out w2 hi2, HH.out.2.trans hb2⟩⟩
            case measure => simp [intOf]; omega
          · have hz3 : ¬ ((z : Nat) : Int) = 0 := by omega
            have TB : Hid (tb m i = L) := Lib.hid (by rw [HTB.out]; simp [hz, h2, h8])
            clear h2 h8 hz
            go_wp2_with (go_at_call 25; refine (Tryd.Builder_WriteByte w'.heap.size w'.heap.size _ _ _ HH.out.1 HLEN.out HH.out.2.size).mono ?_; rintro e w2 ⟨rfl, hi2, hb2⟩)
            go_roundw
            case rel => exact ⟨i + 1, by omega, by go_num, Lib.hid ⟨HNX.out _ TB.out w2 hi2, HH.out.2.trans hb2⟩⟩
            case measure => simp [intOf]; omega
    · have hi1 : ¬ (i : Int) < 9 := by omega
      have h9 : i = 9 := by omega
      have HE : Hid (Lib.IsBuilder 45 5 w'.heap.size w'.heap.size (Lib.byteCells (textS k m)) wr) := Lib.hid (by have := HH.out.1; rw [h9] at this; exact this)
      clear h9 hlt hi9
      go_wp2_with fail
      refine (Tryd.Builder_String_any w'.heap.size w'.heap.size (textS k m) _ HE.out HH.out.2.size).mono ?_
      rintro e w2 ⟨rfl, hb2⟩
      have HB2 := Lib.hid (HH.out.2.trans hb2)
      clear hb2
      go_wp2
      go_ret
      exact ⟨_, by simp, rfl, HB2.out⟩
end Go.Proofs.YtpoicdpfjmeehaaDoor
