/- The document's clause. -/
import Derived.Test.YtpoicdpfjmeehaaDoorS
import Derived.Deep.CutRange
namespace Go.Proofs.YtpoicdpfjmeehaaDoor
open Go.RowKit

theorem atI_who {c : UInt8} : 0 ≤ atI c [117, 103, 111, 97] 0 ↔ isWho c = true := by
  by_cases h : isWho c = true
  · rcases isWho_cases h with rfl | rfl | rfl | rfl <;> exact ⟨fun _ => by decide, fun _ => by decide⟩
  · have h2 : ¬ (c = 117 ∨ c = 103 ∨ c = 111 ∨ c = 97) := fun e => h (by unfold isWho; simpa [or_assoc] using e)
    have h3 : atI c [117, 103, 111, 97] 0 = -1 := by
      simp only [not_or] at h2
      simp [atI, Ne.symm h2.1, Ne.symm h2.2.1, Ne.symm h2.2.2.1, Ne.symm h2.2.2.2]
    rw [h3]
    exact ⟨fun e => by omega, fun e => absurd e h⟩
theorem isLetter_cases {c : UInt8} (h : isLetter c = true) : c = 114 ∨ c = 119 ∨ c = 120 ∨ c = 88 ∨ c = 115 ∨ c = 116 := by unfold isLetter at h; simpa [or_assoc] using h
theorem atI_let {c : UInt8} : 0 ≤ atI c [114, 119, 120, 88, 115, 116] 0 ↔ isLetter c = true := by
  by_cases h : isLetter c = true
  · rcases isLetter_cases h with rfl | rfl | rfl | rfl | rfl | rfl <;> exact ⟨fun _ => by decide, fun _ => by decide⟩
  · have h2 : ¬ (c = 114 ∨ c = 119 ∨ c = 120 ∨ c = 88 ∨ c = 115 ∨ c = 116) := fun e => h (by unfold isLetter; simpa [or_assoc] using e)
    have h3 : atI c [114, 119, 120, 88, 115, 116] 0 = -1 := by
      simp only [not_or] at h2
      simp [atI, Ne.symm h2.1, Ne.symm h2.2.1, Ne.symm h2.2.2.1, Ne.symm h2.2.2.2.1, Ne.symm h2.2.2.2.2.1, Ne.symm h2.2.2.2.2.2]
    rw [h3]
    exact ⟨fun e => by omega, fun e => absurd e h⟩
theorem atI_sign {c : UInt8} : atI c [43, 45, 61] 0 < 0 ↔ ¬ (c = 43 ∨ c = 45 ∨ c = 61) := by
  by_cases h : c = 43 ∨ c = 45 ∨ c = 61
  · rcases h with rfl | rfl | rfl <;> exact ⟨fun e => absurd e (by decide), fun e => absurd e (by decide)⟩
  · have h2 := h
    simp only [not_or] at h2
    have h3 : atI c [43, 45, 61] 0 = -1 := by simp [atI, Ne.symm h2.1, Ne.symm h2.2.1, Ne.symm h2.2.2]
    rw [h3]
    exact ⟨fun _ => h, fun _ => by omega⟩
/-- What the document's bits say of a letter is what is added. -/
theorem rbits_step {wn m b : Nat} {dir : Bool} {c : UInt8} (hw : wn < 8) (hc : isLetter c = true) : bstep m dir (wr3 wn) (ws3 wn) (wt3 wn) b c = b ||| rbits c wn m dir := by
  rw [bstep_or]
  congr 1
  obtain ⟨h4, h2, h1, h0, _⟩ := rmask_eq ⟨wn, hw⟩
  simp only at h4 h2 h1 h0
  rcases isLetter_cases hc with rfl | rfl | rfl | rfl | rfl | rfl
  · show 0 ||| (wr3 wn &&& 292) = rmask 4 wn 3
    rw [h4]; simp
  · show 0 ||| (wr3 wn &&& 146) = rmask 2 wn 3
    rw [h2]; simp
  · show 0 ||| (wr3 wn &&& 73) = rmask 1 wn 3
    rw [h1]; simp
  · have e1 : bstep m dir (wr3 wn) (ws3 wn) (wt3 wn) 0 88 = if (dir || !((m &&& 73) == 0)) = true then 0 ||| (wr3 wn &&& 73) else 0 := rfl
    have e2 : rbits 88 wn m dir = rmask (if (dir || !((m &&& 73) == 0)) = true then 1 else 0) wn 3 := rfl
    rw [e1, e2]
    split
    · rw [h1]; simp
    · rw [h0]
  · show 0 ||| ws3 wn = rbits 115 wn m dir
    simp [ws3, rbits]
  · show 0 ||| wt3 wn = rbits 116 wn m dir
    simp [wt3, rbits]
theorem rmine_eq {wn : Nat} (hw : wn < 8) : rmine wn = (wr3 wn ||| ws3 wn) ||| wt3 wn := by
  have : ∀ wn : Fin 8, rmine wn.val = (wr3 wn.val ||| ws3 wn.val) ||| wt3 wn.val := by decide +kernel
  exact this ⟨wn, hw⟩
/-- The row of a name's bits. -/
def kbit (k : Int) : Int := if k = 0 then 4 else if k = 1 then 2 else if k = 2 then 1 else 7
theorem who_at {c : UInt8} (h : isWho c = true) : ∃ k : Nat, k < 4 ∧ atI c [117, 103, 111, 97] 0 = k ∧ ∀ n, n < 8 → wb n c = n ||| ([4, 2, 1, 7][k]?.getD 0) := by
  rcases isWho_cases h with rfl | rfl | rfl | rfl
  · exact ⟨0, by decide, rfl, fun n _ => rfl⟩
  · exact ⟨1, by decide, rfl, fun n _ => rfl⟩
  · exact ⟨2, by decide, rfl, fun n _ => rfl⟩
  · exact ⟨3, by decide, rfl, fun n _ => rfl⟩
theorem tw_all {p : UInt8 → Bool} : ∀ (l : Bytes) (i : Nat), (l.take i).all p = true → (∀ h : i < l.length, p l[i] = false) → l.takeWhile p = l.take i ∧ l.dropWhile p = l.drop i
  | [], i, _, _ => by simp
  | a :: l, 0, _, h2 => by
    have ha : ¬ p a = true := by have := h2 (by simp); simpa using this
    exact ⟨by rw [List.takeWhile_cons_of_neg ha]; rfl, by rw [List.dropWhile_cons_of_neg ha]; rfl⟩
  | a :: l, i + 1, h1, h2 => by
    rw [List.take_succ_cons, List.all_cons, Bool.and_eq_true] at h1
    have ih := tw_all l i h1.2 (fun h => h2 (by simpa using h))
    rw [List.takeWhile_cons_of_pos h1.1, List.dropWhile_cons_of_pos h1.1, ih.1, ih.2]
    exact ⟨rfl, rfl⟩
theorem take_all_step {p : UInt8 → Bool} (s : ByteArray) (i : Nat) (h : i < s.size) (ha : (s.data.toList.take i).all p = true) (hc : p s[i] = true) : (s.data.toList.take (i + 1)).all p = true := by
  have hl : i < s.data.toList.length := by simpa using h
  rw [List.take_succ_eq_append_getElem hl, List.all_append, ha, List.all_cons]
  have : p s.data.toList[i] = true := hc
  rw [this]; rfl
theorem seg_step (s : ByteArray) (a j : Nat) (h : j < s.size) (ha : a ≤ j) : (s.data.toList.drop a).take (j + 1 - a) = (s.data.toList.drop a).take (j - a) ++ [s[j]] := by
  have hl : j < s.data.toList.length := by simpa using h
  have e : j + 1 - a = (j - a) + 1 := by omega
  rw [e, List.take_succ_eq_append_getElem (by rw [List.length_drop]; omega)]
  congr 2
  rw [List.getElem_drop]
  simp only [show a + (j - a) = j by omega]
  rfl
/-- Where the letters end. -/
theorem seg_end (s : ByteArray) (a j : Nat) (ha : a ≤ j) (h1 : ((s.data.toList.drop a).take (j - a)).all isLetter = true) (h2 : ∀ h : j < s.size, isLetter s[j] = false) :
    (s.data.toList.drop a).takeWhile isLetter = (s.data.toList.drop a).take (j - a) ∧ (s.data.toList.drop a).dropWhile isLetter = s.data.toList.drop j := by
  have h := tw_all (s.data.toList.drop a) (j - a) h1 (fun h => by
    rw [List.length_drop] at h
    have hj : j < s.size := by simp at h; omega
    have := h2 hj
    rw [List.getElem_drop]
    simp only [show a + (j - a) = j by omega]
    exact this)
  rw [List.drop_drop, show a + (j - a) = j by omega] at h
  exact h
theorem at_call (l : ByteArray) (c : UInt8) (hl : l.size ≤ 100) (z : Int) (hz : atI c l.data.toList 0 = z) (w : World) : Calls Tryd.prog 44 #[.string l, .int .u8 c.toNat] w fun e w' => e = .returned (.int .i64 z) ∧ w' = w := by
  have := at_any l c hl w
  rw [hz] at this
  exact this

set_option maxHeartbeats 8000000 in
set_option maxRecDepth 100000 in
theorem rclause_any (s : ByteArray) (m : Nat) (dir : Bool) (w : World) (hs : s.size ≤ 140737488351232) (hm : m < 4096) :
    Calls Tryd.prog 29 #[.string s, .int .i64 m, .bool dir] w fun e w' => e = chEnd (clauseS dir m s.data.toList) ∧ Below w.heap.size w w' := by
  have hsz : s.data.toList.length = s.size := by simp
  have HSZ := Lib.hid hsz
  have HM := Lib.hid hm
  clear hsz hm
  go_enter Tryd.func29, Tryd.ntmps29
  go_wp2
  go_loopw [8, 9, 10] (fun v8 v9 v10 wr => ∃ i wn : Nat, i ≤ s.size ∧ v9 = .int .i64 i ∧ v8 = .int .i64 wn ∧ Hid (Below w.heap.size w wr ∧ wn = (s.data.toList.take i).foldl wb 0 ∧ wn < 8 ∧ (s.data.toList.take i).all isWho = true)) (fun v8 v9 v10 _ => s.size - (intOf v9).toNat)
  case atStart => exact ⟨0, 0, Nat.zero_le _, rfl, rfl, Lib.hid ⟨Below.refl _ _, rfl, by decide, rfl⟩⟩
  case round =>
    obtain ⟨i, wn, hi, rfl, rfl, HH⟩ := hrel
    by_cases hlt : i < s.size
    · have hlt1 : (i : Int) < s.size := by omega
      by_cases hw : isWho s[i] = true
      · obtain ⟨k, hk4, hk, hwb⟩ := who_at hw
        have HA := Lib.hid (at_call ⟨#[117, 103, 111, 97]⟩ s[i] (by decide) k hk)
        have HN : Hid (wb wn s[i] = (s.data.toList.take (i + 1)).foldl wb 0 ∧ wb wn s[i] < 8 ∧ (s.data.toList.take (i + 1)).all isWho = true) := Lib.hid ⟨by rw [fold_take wb s i hlt, ← HH.out.2.1], (wb_step HH.out.2.2.1 hw).1, take_all_step s i hlt HH.out.2.2.2 hw⟩
        have hwb2 := hwb wn HH.out.2.2.1
        have HWN := Lib.hid HH.out.2.2.1
        rw [hwb2] at HN
        clear hwb hwb2 hw hk
        obtain rfl | rfl | rfl | rfl : k = 0 ∨ k = 1 ∨ k = 2 ∨ k = 3 := by omega
        all_goals clear hk4
        · have o1 : bits .or .i64 (wn : Int) 4 = ((wn ||| 4 : Nat) : Int) := or_nat (b := 4) (by have := HWN.out; unfold big; omega) (by decide)
          replace HN : Hid (wn ||| 4 = (s.data.toList.take (i + 1)).foldl wb 0 ∧ wn ||| 4 < 8 ∧ (s.data.toList.take (i + 1)).all isWho = true) := HN
          generalize wn ||| 4 = y at *
          go_wp2_with fail
          refine (HA.out _).mono ?_
          rintro e w1 ⟨rfl, rfl⟩
          go_wp2_with fail
          refine (HA.out _).mono ?_
          rintro e w1 ⟨rfl, rfl⟩
          go_wp2
          go_roundw
          case rel => exact ⟨i + 1, y, by omega, by go_num, rfl, Lib.hid ⟨HH.out.1.alloc HH.out.1.size _, HN.out⟩⟩
          case measure => simp [intOf]; omega
        · have o1 : bits .or .i64 (wn : Int) 2 = ((wn ||| 2 : Nat) : Int) := or_nat (b := 2) (by have := HWN.out; unfold big; omega) (by decide)
          replace HN : Hid (wn ||| 2 = (s.data.toList.take (i + 1)).foldl wb 0 ∧ wn ||| 2 < 8 ∧ (s.data.toList.take (i + 1)).all isWho = true) := HN
          generalize wn ||| 2 = y at *
          go_wp2_with fail
          refine (HA.out _).mono ?_
          rintro e w1 ⟨rfl, rfl⟩
          go_wp2_with fail
          refine (HA.out _).mono ?_
          rintro e w1 ⟨rfl, rfl⟩
          go_wp2
          go_roundw
          case rel => exact ⟨i + 1, y, by omega, by go_num, rfl, Lib.hid ⟨HH.out.1.alloc HH.out.1.size _, HN.out⟩⟩
          case measure => simp [intOf]; omega
        · have o1 : bits .or .i64 (wn : Int) 1 = ((wn ||| 1 : Nat) : Int) := or_nat (b := 1) (by have := HWN.out; unfold big; omega) (by decide)
          replace HN : Hid (wn ||| 1 = (s.data.toList.take (i + 1)).foldl wb 0 ∧ wn ||| 1 < 8 ∧ (s.data.toList.take (i + 1)).all isWho = true) := HN
          generalize wn ||| 1 = y at *
          go_wp2_with fail
          refine (HA.out _).mono ?_
          rintro e w1 ⟨rfl, rfl⟩
          go_wp2_with fail
          refine (HA.out _).mono ?_
          rintro e w1 ⟨rfl, rfl⟩
          go_wp2
          go_roundw
          case rel => exact ⟨i + 1, y, by omega, by go_num, rfl, Lib.hid ⟨HH.out.1.alloc HH.out.1.size _, HN.out⟩⟩
          case measure => simp [intOf]; omega
        · have o1 : bits .or .i64 (wn : Int) 7 = ((wn ||| 7 : Nat) : Int) := or_nat (b := 7) (by have := HWN.out; unfold big; omega) (by decide)
          replace HN : Hid (wn ||| 7 = (s.data.toList.take (i + 1)).foldl wb 0 ∧ wn ||| 7 < 8 ∧ (s.data.toList.take (i + 1)).all isWho = true) := HN
          generalize wn ||| 7 = y at *
          go_wp2_with fail
          refine (HA.out _).mono ?_
          rintro e w1 ⟨rfl, rfl⟩
          go_wp2_with fail
          refine (HA.out _).mono ?_
          rintro e w1 ⟨rfl, rfl⟩
          go_wp2
          go_roundw
          case rel => exact ⟨i + 1, y, by omega, by go_num, rfl, Lib.hid ⟨HH.out.1.alloc HH.out.1.size _, HN.out⟩⟩
          case measure => simp [intOf]; omega
      · have hz : atI s[i] [117, 103, 111, 97] 0 = -1 := by
          have h2 : ¬ (s[i] = 117 ∨ s[i] = 103 ∨ s[i] = 111 ∨ s[i] = 97) := fun e => hw (by unfold isWho; simpa [or_assoc] using e)
          simp only [not_or] at h2
          simp [atI, Ne.symm h2.1, Ne.symm h2.2.1, Ne.symm h2.2.2.1, Ne.symm h2.2.2.2]
        have HA := Lib.hid (at_call ⟨#[117, 103, 111, 97]⟩ s[i] (by decide) (-1) hz)
        obtain ⟨htk, hdr⟩ := tw_all s.data.toList i HH.out.2.2.2 (fun _ => (by simpa using hw : isWho s[i] = false))
        obtain ⟨W, hW⟩ : ∃ W, whoN s.data.toList = W := ⟨_, rfl⟩
        have hWn : W = if wn = 0 then 7 else wn := by
          rw [← hW, HH.out.2.1, ← htk]; rfl
        obtain ⟨hws, hW8, hW0⟩ := whoN_S s.data.toList
        rw [hW] at hws hW8 hW0
        have HCS : Hid (clauseS dir m s.data.toList = cloop dir (wr3 W) (ws3 W) (wt3 W) (s.data.toList.drop i).length (s.data.toList.drop i) m) := Lib.hid (by
          unfold clauseS
          rw [hws, hdr]
          have hne : ¬ s.data.toList.drop i = [] := fun h => by
            have := congrArg List.length h
            rw [List.length_drop, HSZ.out] at this
            simp at this; omega
          simp only [if_neg hne])
        have HW := Lib.hid (And.intro hW8 hWn)
        have HB := Lib.hid HH.out.1
        clear hz hw htk hdr hW hws hW8 hW0 hWn HH
        go_wp2_with fail
        refine (HA.out _).mono ?_
        rintro e w1 ⟨rfl, rfl⟩
        clear HA
        go_upto_if 37 with fail
        go_cut [8] from 37 to 37 (fun v8 wx => v8 = .int .i64 W ∧ wx = w1)
        case first =>
          by_cases h0 : wn = 0
          · have hw7 : W = 7 := by rw [HW.out.2, if_pos h0]
            subst h0
            go_wp2
            go_meet
            exact ⟨by rw [hw7]; rfl, rfl⟩
          · have h01 : ¬ (wn : Int) = 0 := by omega
            have hw7 : W = wn := by rw [HW.out.2, if_neg h0]
            clear h0
            go_wp2
            go_meet
            exact ⟨by rw [hw7], rfl⟩
        case rest =>
          obtain ⟨rfl, hwx⟩ := hcut
          subst hwx
          have hne1 : ((i : Int) == (s.size : Int)) = false := by simp; omega
          go_upto_region 11 with fail
          clear hne1
          go_loopw [1, 9, 11, 12] (fun v1 v9 v11 v12 wr => ∃ i m' k : Nat, i ≤ s.size ∧ v9 = .int .i64 i ∧ v1 = .int .i64 m' ∧ Hid (Below w.heap.size w wr ∧ m' < 4096 ∧ (s.data.toList.drop i).length ≤ k ∧ cloop dir (wr3 W) (ws3 W) (wt3 W) k (s.data.toList.drop i) m' = clauseS dir m s.data.toList)) (fun v1 v9 v11 v12 _ => s.size - (intOf v9).toNat)
          case atStart => exact ⟨i, m, (s.data.toList.drop i).length, hi, rfl, rfl, Lib.hid ⟨HB.out, HM.out, Nat.le_refl _, HCS.out.symm⟩⟩
          case round =>
            clear HCS HB hi
            obtain ⟨i, m', k, hi, rfl, rfl, HH⟩ := hrel
            by_cases hlt : i < s.size
            · have hlt1 : (i : Int) < s.size := by omega
              have hcons : s.data.toList.drop i = s[i] :: s.data.toList.drop (i + 1) := by
                rw [List.drop_eq_getElem_cons (by rw [HSZ.out]; exact hlt)]; rfl
              have HLN := Lib.hid HH.out.2.2.1
              obtain ⟨k', rfl⟩ : ∃ k', k = k' + 1 := ⟨k - 1, by
                have := HLN.out
                rw [List.length_drop, HSZ.out] at this
                omega⟩
              have HK : Hid ((s.data.toList.drop (i + 1)).length ≤ k') := Lib.hid (by
                have := HLN.out
                rw [List.length_drop, HSZ.out] at this ⊢
                omega)
              have HSTEP : Hid ((if s[i] = 43 then cloop dir (wr3 W) (ws3 W) (wt3 W) k' ((s.data.toList.drop (i + 1)).dropWhile isLetter) (m' ||| bitsS m' dir (wr3 W) (ws3 W) (wt3 W) ((s.data.toList.drop (i + 1)).takeWhile isLetter))
                else if s[i] = 45 then cloop dir (wr3 W) (ws3 W) (wt3 W) k' ((s.data.toList.drop (i + 1)).dropWhile isLetter) (m' &&& (full - bitsS m' dir (wr3 W) (ws3 W) (wt3 W) ((s.data.toList.drop (i + 1)).takeWhile isLetter)))
                else if s[i] = 61 then cloop dir (wr3 W) (ws3 W) (wt3 W) k' ((s.data.toList.drop (i + 1)).dropWhile isLetter) ((m' &&& (full - ((wr3 W ||| ws3 W) ||| wt3 W))) ||| bitsS m' dir (wr3 W) (ws3 W) (wt3 W) ((s.data.toList.drop (i + 1)).takeWhile isLetter))
                else none) = clauseS dir m s.data.toList) := Lib.hid (by rw [← HH.out.2.2.2, hcons]; rfl)
              have HBw := Lib.hid HH.out.1
              have HM4 := Lib.hid HH.out.2.1
              clear hcons HH HLN
              go_upto_region 13 with fail
              generalize s[i] = sg at *
              by_cases hsc : sg = 43 ∨ sg = 45 ∨ sg = 61
              · have hz : ∃ z : Int, 0 ≤ z ∧ atI sg [43, 45, 61] 0 = z := by
                  rcases hsc with rfl | rfl | rfl
                  · exact ⟨0, by omega, rfl⟩
                  · exact ⟨1, by omega, rfl⟩
                  · exact ⟨2, by omega, rfl⟩
                obtain ⟨z, hz0, hz⟩ := hz
                have hz1 : ¬ z < 0 := by omega
                have HA := Lib.hid (at_call ⟨#[43, 45, 61]⟩ sg (by decide) z hz)
                have HSC := Lib.hid hsc
                clear hz hz0 hsc
                go_wp2_with fail
                refine (HA.out _).mono ?_
                rintro e w1 ⟨rfl, rfl⟩
                clear HA
                go_upto_region 17 with fail
                clear hz1
                go_loopw [9, 12] (fun v9 v12 wr => ∃ j b : Nat, i + 1 ≤ j ∧ j ≤ s.size ∧ v9 = .int .i64 j ∧ v12 = .int .i64 b ∧ wr = w1 ∧ Hid (b = ((s.data.toList.drop (i + 1)).take (j - (i + 1))).foldl (bstep m' dir (wr3 W) (ws3 W) (wt3 W)) 0 ∧ b < 4096 ∧ ((s.data.toList.drop (i + 1)).take (j - (i + 1))).all isLetter = true)) (fun v9 v12 _ => s.size - (intOf v9).toNat)
                case atStart => exact ⟨i + 1, 0, Nat.le_refl _, by omega, by go_num, rfl, rfl, Lib.hid (by simp)⟩
                case round =>
                  obtain ⟨j, b, hij, hjs, rfl, rfl, rfl, HB2⟩ := hrel
                  by_cases hjl : j < s.size
                  · have hjl1 : (j : Int) < s.size := by omega
                    by_cases hlet : isLetter s[j] = true
                    · have hz : ∃ z : Int, 0 ≤ z ∧ atI s[j] [114, 119, 120, 88, 115, 116] 0 = z := ⟨_, atI_let.2 hlet, rfl⟩
                      obtain ⟨z, hz0, hz⟩ := hz
                      have HA := Lib.hid (at_call ⟨#[114, 119, 120, 88, 115, 116]⟩ s[j] (by decide) z hz)
                      have HR := Lib.hid (rbits_any s[j] W m' dir (isLetter_cases hlet) HW.out.1 HM4.out)
                      have hbs := rbits_step (m := m') (b := b) (dir := dir) HW.out.1 hlet
                      have hblt : b ||| rbits s[j] W m' dir < 4096 := by
                        rw [← hbs]
                        exact bstep_lt (by have := (wr3_lt ⟨W, HW.out.1⟩).1; simp only at this; omega) (wr3_lt ⟨W, HW.out.1⟩).2.1 (wr3_lt ⟨W, HW.out.1⟩).2.2 HB2.out.2.1
                      have HN : Hid (b ||| rbits s[j] W m' dir = ((s.data.toList.drop (i + 1)).take (j + 1 - (i + 1))).foldl (bstep m' dir (wr3 W) (ws3 W) (wt3 W)) 0 ∧ b ||| rbits s[j] W m' dir < 4096 ∧ ((s.data.toList.drop (i + 1)).take (j + 1 - (i + 1))).all isLetter = true) := Lib.hid (by
                        rw [seg_step s (i + 1) j hjl hij, List.foldl_append, ← HB2.out.1, List.all_append, HB2.out.2.2]
                        exact ⟨hbs.symm, hblt, by simp [hlet]⟩)
                      have hrl : rbits s[j] W m' dir < 4096 := Nat.lt_of_le_of_lt Nat.right_le_or hblt
                      generalize rbits s[j] W m' dir = rb at *
                      have o1 : bits .or .i64 (b : Int) (rb : Int) = ((b ||| rb : Nat) : Int) := or_nat (by have := HB2.out.2.1; unfold big; omega) (by unfold big; omega)
                      generalize b ||| rb = y at *
                      clear hz hlet hbs hblt hrl
                      go_wp2_with fail
                      refine (HA.out _).mono ?_
                      rintro e w2 ⟨rfl, rfl⟩
                      clear HA
                      go_wp2_with fail
                      refine (HR.out _).mono ?_
                      rintro e w2 ⟨rfl, rfl⟩
                      go_wp2
                      go_roundw
                      case rel => exact ⟨j + 1, y, by omega, by omega, by go_num, rfl, trivial, HN⟩
                      case measure => simp [intOf]; omega
                    · have hz : atI s[j] [114, 119, 120, 88, 115, 116] 0 = -1 := by
                        have h2 : ¬ (s[j] = 114 ∨ s[j] = 119 ∨ s[j] = 120 ∨ s[j] = 88 ∨ s[j] = 115 ∨ s[j] = 116) := fun e => hlet (by unfold isLetter; simpa [or_assoc] using e)
                        simp only [not_or] at h2
                        simp [atI, Ne.symm h2.1, Ne.symm h2.2.1, Ne.symm h2.2.2.1, Ne.symm h2.2.2.2.1, Ne.symm h2.2.2.2.2.1, Ne.symm h2.2.2.2.2.2]
                      have HA := Lib.hid (at_call ⟨#[114, 119, 120, 88, 115, 116]⟩ s[j] (by decide) (-1) hz)
                      clear hz
                      have hsc := HSC.out
                      have HF : Hid ((if sg = 43 then cloop dir (wr3 W) (ws3 W) (wt3 W) k' (s.data.toList.drop j) (m' ||| b) else if sg = 45 then cloop dir (wr3 W) (ws3 W) (wt3 W) k' (s.data.toList.drop j) (m' &&& (full - b)) else if sg = 61 then cloop dir (wr3 W) (ws3 W) (wt3 W) k' (s.data.toList.drop j) ((m' &&& (full - rmine W)) ||| b) else none) = clauseS dir m s.data.toList ∧ (s.data.toList.drop j).length ≤ k') := Lib.hid (by
                        obtain ⟨e1, e2⟩ := seg_end s (i + 1) j hij HB2.out.2.2 (fun _ => (by simpa using hlet : isLetter s[j] = false))
                        have h := HSTEP.out
                        rw [e1, e2] at h
                        rw [rmine_eq HW.out.1, ← h]
                        refine ⟨by rw [HB2.out.1]; rfl, ?_⟩
                        have := HK.out
                        rw [List.length_drop, HSZ.out] at this ⊢
                        omega)
                      have HJ := Lib.hid hij
                      have o1 : bits .or .i64 (m' : Int) (b : Int) = ((m' ||| b : Nat) : Int) := or_nat (by have := HM4.out; unfold big; omega) (by have := HB2.out.2.1; unfold big; omega)
                      have o2 : bits .andNot .i64 (m' : Int) (b : Int) = ((m' &&& (full - b) : Nat) : Int) := andNot_nat (by have := HM4.out; unfold big; omega) (by have := HB2.out.2.1; unfold big; omega)
                      have hlm : rmine W < 4096 := by rw [rmine_eq HW.out.1]; exact or_lt (or_lt (by have := (wr3_lt ⟨W, HW.out.1⟩).1; simp only at this; omega) (wr3_lt ⟨W, HW.out.1⟩).2.1) (wr3_lt ⟨W, HW.out.1⟩).2.2
                      have o3 : bits .andNot .i64 (m' : Int) (rmine W : Int) = ((m' &&& (full - rmine W) : Nat) : Int) := andNot_nat (by have := HM4.out; unfold big; omega) (by unfold big; omega)
                      have l5 : m' &&& (full - rmine W) < 4096 := Nat.lt_of_le_of_lt Nat.and_le_left HM4.out
                      have o4 : bits .or .i64 ((m' &&& (full - rmine W) : Nat) : Int) (b : Int) = (((m' &&& (full - rmine W)) ||| b : Nat) : Int) := or_nat (by unfold big; omega) (by have := HB2.out.2.1; unfold big; omega)
                      have L1 := Lib.hid (or_lt HM4.out HB2.out.2.1)
                      have L2 : Hid (m' &&& (full - b) < 4096) := Lib.hid (Nat.lt_of_le_of_lt Nat.and_le_left HM4.out)
                      have L3 := Lib.hid (or_lt l5 HB2.out.2.1)
                      have HMN := Lib.hid (mine_any W HW.out.1)
                      clear hlm l5 HB2 hij
                      generalize m' ||| b = y1 at *
                      generalize m' &&& (full - b) = y2 at *
                      generalize (m' &&& (full - rmine W)) ||| b = y3 at *
                      generalize m' &&& (full - rmine W) = y4 at *
                      generalize rmine W = y5 at *
                      clear hlet
                      go_wp2_with fail
                      refine (HA.out _).mono ?_
                      rintro e w2 ⟨rfl, rfl⟩
                      clear HA
                      rcases hsc with rfl | rfl | rfl
                      · clear o2 o3 o4
                        go_wp2
                        go_roundw
                        case rel => exact ⟨j, y1, k', by have := hjs; omega, rfl, rfl, Lib.hid ⟨HBw.out, L1.out, HF.out.2, by rw [← HF.out.1]; rfl⟩⟩
                        case measure => have := HJ.out; simp [intOf]; omega
                      · clear o1 o3 o4
                        go_wp2
                        go_roundw
                        case rel => exact ⟨j, y2, k', by have := hjs; omega, rfl, rfl, Lib.hid ⟨HBw.out, L2.out, HF.out.2, by rw [← HF.out.1]; rfl⟩⟩
                        case measure => have := HJ.out; simp [intOf]; omega
                      · clear o1 o2
                        go_wp2_with fail
                        refine (HMN.out _).mono ?_
                        rintro e w3 ⟨rfl, rfl⟩
                        go_wp2
                        go_roundw
                        case rel => exact ⟨j, y3, k', by have := hjs; omega, rfl, rfl, Lib.hid ⟨HBw.out, L3.out, HF.out.2, by rw [← HF.out.1]; rfl⟩⟩
                        case measure => have := HJ.out; simp [intOf]; omega
                  · obtain rfl : j = s.size := by omega
                    have hsc := HSC.out
                    have HF : Hid ((if sg = 43 then cloop dir (wr3 W) (ws3 W) (wt3 W) k' (s.data.toList.drop s.size) (m' ||| b) else if sg = 45 then cloop dir (wr3 W) (ws3 W) (wt3 W) k' (s.data.toList.drop s.size) (m' &&& (full - b)) else if sg = 61 then cloop dir (wr3 W) (ws3 W) (wt3 W) k' (s.data.toList.drop s.size) ((m' &&& (full - rmine W)) ||| b) else none) = clauseS dir m s.data.toList ∧ (s.data.toList.drop s.size).length ≤ k') := Lib.hid (by
                      obtain ⟨e1, e2⟩ := seg_end s (i + 1) s.size hij HB2.out.2.2 (fun h => absurd h (Nat.lt_irrefl _))
                      have h := HSTEP.out
                      rw [e1, e2] at h
                      rw [rmine_eq HW.out.1, ← h]
                      refine ⟨by rw [HB2.out.1]; rfl, ?_⟩
                      have := HK.out
                      rw [List.length_drop, HSZ.out] at this ⊢
                      omega)
                    have HJ := Lib.hid hij
                    have o1 : bits .or .i64 (m' : Int) (b : Int) = ((m' ||| b : Nat) : Int) := or_nat (by have := HM4.out; unfold big; omega) (by have := HB2.out.2.1; unfold big; omega)
                    have o2 : bits .andNot .i64 (m' : Int) (b : Int) = ((m' &&& (full - b) : Nat) : Int) := andNot_nat (by have := HM4.out; unfold big; omega) (by have := HB2.out.2.1; unfold big; omega)
                    have hlm : rmine W < 4096 := by rw [rmine_eq HW.out.1]; exact or_lt (or_lt (by have := (wr3_lt ⟨W, HW.out.1⟩).1; simp only at this; omega) (wr3_lt ⟨W, HW.out.1⟩).2.1) (wr3_lt ⟨W, HW.out.1⟩).2.2
                    have o3 : bits .andNot .i64 (m' : Int) (rmine W : Int) = ((m' &&& (full - rmine W) : Nat) : Int) := andNot_nat (by have := HM4.out; unfold big; omega) (by unfold big; omega)
                    have l5 : m' &&& (full - rmine W) < 4096 := Nat.lt_of_le_of_lt Nat.and_le_left HM4.out
                    have o4 : bits .or .i64 ((m' &&& (full - rmine W) : Nat) : Int) (b : Int) = (((m' &&& (full - rmine W)) ||| b : Nat) : Int) := or_nat (by unfold big; omega) (by have := HB2.out.2.1; unfold big; omega)
                    have L1 := Lib.hid (or_lt HM4.out HB2.out.2.1)
                    have L2 : Hid (m' &&& (full - b) < 4096) := Lib.hid (Nat.lt_of_le_of_lt Nat.and_le_left HM4.out)
                    have L3 := Lib.hid (or_lt l5 HB2.out.2.1)
                    have HMN := Lib.hid (mine_any W HW.out.1)
                    clear hlm l5 HB2 hij
                    generalize m' ||| b = y1 at *
                    generalize m' &&& (full - b) = y2 at *
                    generalize (m' &&& (full - rmine W)) ||| b = y3 at *
                    generalize m' &&& (full - rmine W) = y4 at *
                    generalize rmine W = y5 at *
                    rcases hsc with rfl | rfl | rfl
                    · clear o2 o3 o4
                      go_wp2
                      go_roundw
                      case rel => exact ⟨s.size, y1, k', by have := hjs; omega, rfl, rfl, Lib.hid ⟨HBw.out, L1.out, HF.out.2, by rw [← HF.out.1]; rfl⟩⟩
                      case measure => have := HJ.out; simp [intOf]; omega
                    · clear o1 o3 o4
                      go_wp2
                      go_roundw
                      case rel => exact ⟨s.size, y2, k', by have := hjs; omega, rfl, rfl, Lib.hid ⟨HBw.out, L2.out, HF.out.2, by rw [← HF.out.1]; rfl⟩⟩
                      case measure => have := HJ.out; simp [intOf]; omega
                    · clear o1 o2
                      go_wp2_with fail
                      refine (HMN.out _).mono ?_
                      rintro e w3 ⟨rfl, rfl⟩
                      go_wp2
                      go_roundw
                      case rel => exact ⟨s.size, y3, k', by have := hjs; omega, rfl, rfl, Lib.hid ⟨HBw.out, L3.out, HF.out.2, by rw [← HF.out.1]; rfl⟩⟩
                      case measure => have := HJ.out; simp [intOf]; omega
              · have hz : atI sg [43, 45, 61] 0 = -1 := by
                  have h2 := hsc
                  simp only [not_or] at h2
                  simp [atI, Ne.symm h2.1, Ne.symm h2.2.1, Ne.symm h2.2.2]
                have HA := Lib.hid (at_call ⟨#[43, 45, 61]⟩ sg (by decide) (-1) hz)
                have HE : Hid (clauseS dir m s.data.toList = none) := Lib.hid (by
                  have h2 := hsc
                  simp only [not_or] at h2
                  rw [← HSTEP.out, if_neg h2.1, if_neg h2.2.1, if_neg h2.2.2])
                clear hz hsc HSTEP
                go_wp2_with fail
                refine (HA.out _).mono ?_
                rintro e w1 ⟨rfl, rfl⟩
                clear HA
                go_wp2
                exact bodyPost_ret (v := .tuple #[.int .i64 0, .bool false]) (by simp [results, Tryd.results29, go_sem]) rfl ⟨by rw [HE.out]; rfl, HBw.out⟩
            · obtain rfl : i = s.size := by omega
              have HE : Hid (clauseS dir m s.data.toList = some m') := Lib.hid (by
                rw [← HH.out.2.2.2, List.drop_of_length_le (by rw [HSZ.out]; exact Nat.le_refl _)]
                cases k <;> rfl)
              have HBw := Lib.hid HH.out.1
              clear HH
              go_wp2
              exact bodyPost_ret (v := .tuple #[.int .i64 m', .bool true]) (by simp [results, Tryd.results29, go_sem]) rfl ⟨by rw [HE.out]; rfl, HBw.out⟩
    · obtain rfl : i = s.size := by omega
      have HE : Hid (clauseS dir m s.data.toList = none) := Lib.hid (by
        have ht := (tw_all s.data.toList s.size HH.out.2.2.2 (fun h => by simp at h)).2
        unfold clauseS
        rw [ht, List.drop_of_length_le (by simp)]
        rfl)
      have HB := Lib.hid HH.out.1
      clear HH
      by_cases h0 : wn = 0
      · subst h0
        go_wp2
        exact bodyPost_ret (v := .tuple #[.int .i64 0, .bool false]) (by simp [results, Tryd.results29, go_sem]) rfl ⟨by rw [HE.out]; rfl, HB.out⟩
      · have h01 : ¬ (wn : Int) = 0 := by omega
        clear h0
        go_wp2
        exact bodyPost_ret (v := .tuple #[.int .i64 0, .bool false]) (by simp [results, Tryd.results29, go_sem]) rfl ⟨by rw [HE.out]; rfl, HB.out⟩
end Go.Proofs.YtpoicdpfjmeehaaDoor
