/- Expressions: the sign that stands here; take; the word. -/
import Derived.Test.YtpjjdaenckedbaaDoorB
namespace Go.Proofs.YtpjjdaenckedbaaDoor
open Go.RowKit

theorem pre_any (s p : Bytes) (w : World) : Calls Tryd.prog 33 #[.string (B s), .string (B p)] w fun e w' => e = .returned (.bool (p.isPrefixOf s)) ∧ w' = w := Tryd.strings_HasPrefix (B s) (B p) w
theorem SgC.at {w : World} {n : Nat} (h : SgC w n) {k : Nat} (hk : k < signsL.length) : w.cell? ⟨n, k, none⟩ = some (.string (B (signsL[k]'hk))) := by
  rw [heap_cell h k]
  simp [hk]
theorem sgnIn_step {t : Bytes} {k : Nat} (hk : k < signsL.length) : sgnIn (signsL.drop k) t = if (signsL[k]'hk).isPrefixOf t then signsL[k]'hk else sgnIn (signsL.drop (k + 1)) t := by
  rw [List.drop_eq_getElem_cons hk]; rfl
set_option maxHeartbeats 1000000 in
theorem sign_any (b : Nat) (s : Bytes) (d : Int) (w : World) (h : RD w b s d) : Calls Tryd.prog 20 #[.pointer (some ⟨b, 0, none⟩)] w (RP b (blank s) d (.string (B (sgn (blank s)))) w) := by
  have HB := Lib.hid (blanks_any b s d w h)
  clear h
  go_enter Tryd.func20, Tryd.ntmps20
  go_wp2_with fail
  refine HB.out.mono ?_
  rintro e w1 ⟨rfl, h1, hm1⟩
  have H1 := Lib.hid h1
  have HM1 := Lib.hid hm1
  clear h1 hm1 HB
  go_wp2_with fail
  refine (signs_any w1).mono ?_
  rintro e w2 ⟨rfl, hs, hb2⟩
  have H2 := Lib.hid (H1.out.still hb2)
  have HM2 := Lib.hid (HM1.out.trans (Mo.of hb2))
  have HS := Lib.hid hs
  have c0 := H2.out.c0
  clear hs hb2 H1 HM1
  generalize blank s = t at *
  generalize w1.heap.size = n at *
  go_wp2
  go_loop [4, 9] (fun v4 v9 => ∃ k : Nat, k ≤ 35 ∧ v9 = .int .i64 k ∧ Hid (sgnIn (signsL.drop k) t = sgn t)) (fun v4 v9 => 35 - (intOf v9).toNat)
  case atStart => exact ⟨0, by omega, rfl, Lib.hid rfl⟩
  case round =>
    obtain ⟨k, hk, rfl, HH⟩ := hrel
    by_cases hlt : k < 35
    · have hlt1 : (k : Int) < 35 := by omega
      have hl : k < signsL.length := hlt
      have ck := HS.out.at hl
      have HN := Lib.hid (sgnIn_step (t := t) hl)
      generalize signsL[k] = p at *
      cases hp : p.isPrefixOf t with
      | true =>
        have HP := Lib.hid hp
        clear hp
        go_wp2_with fail
        refine (pre_any t p w2).mono ?_
        rw [HP.out]
        rintro e w3 ⟨rfl, rfl⟩
        go_wp2
        go_ret
        refine ⟨?_, H2.out, HM2.out⟩
        rw [← HH.out, HN.out, if_pos HP.out]; rfl
      | false =>
        have HP := Lib.hid hp
        clear hp
        go_wp2_with fail
        refine (pre_any t p w2).mono ?_
        rw [HP.out]
        rintro e w3 ⟨rfl, rfl⟩
        go_wp2
        go_round
        case rel => exact ⟨k + 1, by omega, by go_num, Lib.hid (by rw [← HH.out, HN.out, if_neg (by rw [HP.out]; decide)])⟩
        case measure => simp [intOf]; omega
    · have hlt1 : ¬ (k : Int) < 35 := by omega
      obtain rfl : k = 35 := by omega
      go_wp2
      go_ret
      refine ⟨?_, H2.out, HM2.out⟩
      rw [← HH.out]; rfl
theorem B_size (s : Bytes) : (B s).size = s.length := rfl
theorem B_sub (s : Bytes) (i j : Nat) : (B s).extract i j = B ((s.drop i).take (j - i)) := by
  apply ByteArray.ext
  rw [ByteArray.data_extract]
  apply Array.ext'
  rw [Array.toList_extract]
  show List.extract s i j = _
  rw [List.extract_eq_take_drop]; rfl
theorem B_drop (s x : Bytes) : (B s).extract (B x).size (B s).size = B (s.drop x.length) := by
  rw [B_sub]
  congr 1
  rw [B_size, B_size]
  exact List.take_of_length_le (by simp)
theorem B_take (s : Bytes) (k : Nat) : (B s).extract 0 k = B (s.take k) := by
  rw [B_sub]; rfl
theorem take_yes (b : Nat) (s x : Bytes) (d : Int) (w : World) (h : RD w b s d) (hx : sgn (blank s) = x) : Calls Tryd.prog 37 #[.pointer (some ⟨b, 0, none⟩), .string (B x)] w (RP b ((blank s).drop x.length) d (.bool true) w) := by
  have HB := Lib.hid (sign_any b s d w h)
  have HX := Lib.hid hx
  have hc := B_cmp x x
  have hle : (B x).size ≤ (B (blank s)).size := by rw [← hx]; exact sgn_le _
  have HD := Lib.hid (B_drop (blank s) x)
  clear h hx
  go_enter Tryd.func37, Tryd.ntmps37
  go_wp2_with fail
  refine HB.out.mono ?_
  rw [HX.out]
  rintro e w1 ⟨rfl, h1, hm1⟩
  have H1 := Lib.hid h1
  have HM1 := Lib.hid hm1
  have c0 := h1.c0
  have f0 := h1.f 0
  clear h1 hm1 HB
  go_wp2
  go_ret
  rw [HD.out]
  exact ⟨rfl, H1.out.text _, HM1.out.set _⟩
theorem take_no (b : Nat) (s x : Bytes) (d : Int) (w : World) (h : RD w b s d) (hx : sgn (blank s) ≠ x) : Calls Tryd.prog 37 #[.pointer (some ⟨b, 0, none⟩), .string (B x)] w (RP b (blank s) d (.bool false) w) := by
  have HB := Lib.hid (sign_any b s d w h)
  have hc : ((B (sgn (blank s))).toList == (B x).toList) = false := by rw [B_list, B_list]; simpa using hx
  clear h hx
  generalize sgn (blank s) = y at *
  go_enter Tryd.func37, Tryd.ntmps37
  go_wp2_with fail
  refine HB.out.mono ?_
  rintro e w1 ⟨rfl, h1, hm1⟩
  have H1 := Lib.hid h1
  have HM1 := Lib.hid hm1
  clear h1 hm1 HB
  go_wp2
  go_ret
  exact ⟨rfl, H1.out, HM1.out⟩
theorem word_step {t : Bytes} {k : Nat} (hk : k < t.length) : word (t.drop k) = if isW t[k] then t[k] :: word (t.drop (k + 1)) else [] := by
  rw [List.drop_eq_getElem_cons hk]
  unfold word
  rw [List.takeWhile_cons]
set_option maxHeartbeats 1000000 in
theorem word_any (b : Nat) (s : Bytes) (d : Int) (w : World) (h : RD w b s d) (hs : s.length ≤ 1000) : Calls Tryd.prog 18 #[.pointer (some ⟨b, 0, none⟩)] w (RP b (blank s) d (.string (B (word (blank s)))) w) := by
  have HB := Lib.hid (blanks_any b s d w h)
  have hl : (blank s).length ≤ 1000 := Nat.le_trans (List.dropWhile_sublist _).length_le hs
  clear h hs
  go_enter Tryd.func18, Tryd.ntmps18
  go_wp2_with fail
  refine HB.out.mono ?_
  rintro e w1 ⟨rfl, h1, hm1⟩
  have H1 := Lib.hid h1
  have HM1 := Lib.hid hm1
  have c0 := h1.c0
  clear h1 hm1 HB
  generalize blank s = t at *
  have hsz : (B t).size = t.length := rfl
  go_wp2
  go_loop [3] (fun v3 => ∃ k : Nat, k ≤ t.length ∧ v3 = .int .i64 k ∧ Hid (word t = t.take k ++ word (t.drop k))) (fun v3 => t.length - (intOf v3).toNat)
  case atStart => exact ⟨0, Nat.zero_le _, rfl, Lib.hid rfl⟩
  case round =>
    obtain ⟨k, hk, rfl, HH⟩ := hrel
    by_cases hlt : k < t.length
    · have hlt1 : (k : Int) < t.length := by omega
      have HN := Lib.hid (word_step hlt)
      have HT : Hid (t.take (k + 1) = t.take k ++ [t[k]]) := Lib.hid (List.take_succ_eq_append_getElem hlt)
      have hb : k < (B t).size := hlt
      have hg : (B t)[k] = t[k] := rfl
      generalize t[k] = c at *
      have HE := Lib.hid (B_take t k)
      have hle2 : k ≤ (B t).size := by omega
      cases hL : isLet c with
      | true =>
        have HL := Lib.hid hL
        have HW : Hid (isW c = true) := Lib.hid (by unfold isW; rw [hL]; rfl)
        clear hL
        go_wp2_with fail
        refine (letter_any c w1).mono ?_
        rw [HL.out]
        rintro e w2 ⟨rfl, rfl⟩
        go_wp2
        go_round
        case rel => exact ⟨k + 1, by omega, by go_num, Lib.hid (by rw [HH.out, HN.out, if_pos HW.out, HT.out]; simp)⟩
        case measure => simp [intOf]; omega
      | false =>
        have HL := Lib.hid hL
        by_cases h48 : 48 ≤ (c.toNat : Int)
        · by_cases h57 : (c.toNat : Int) ≤ 57
          · have HW : Hid (isW c = true) := Lib.hid (by unfold isW isDig; rw [hL]; simp; omega)
            clear hL
            go_wp2_with fail
            refine (letter_any c w1).mono ?_
            rw [HL.out]
            rintro e w2 ⟨rfl, rfl⟩
            go_wp2
            go_round
            case rel => exact ⟨k + 1, by omega, by go_num, Lib.hid (by rw [HH.out, HN.out, if_pos HW.out, HT.out]; simp)⟩
            case measure => simp [intOf]; omega
          · have HW : Hid (isW c = false) := Lib.hid (by unfold isW isDig; rw [hL]; simp; omega)
            clear hL
            go_wp2_with fail
            refine (letter_any c w1).mono ?_
            rw [HL.out]
            rintro e w2 ⟨rfl, rfl⟩
            go_wp2
            go_ret
            rw [HE.out]
            refine ⟨?_, H1.out, HM1.out⟩
            rw [HH.out, HN.out, if_neg (by rw [HW.out]; decide), List.append_nil]; rfl
        · have HW : Hid (isW c = false) := Lib.hid (by unfold isW isDig; rw [hL]; simp; omega)
          clear hL
          go_wp2_with fail
          refine (letter_any c w1).mono ?_
          rw [HL.out]
          rintro e w2 ⟨rfl, rfl⟩
          go_wp2
          go_ret
          rw [HE.out]
          refine ⟨?_, H1.out, HM1.out⟩
          rw [HH.out, HN.out, if_neg (by rw [HW.out]; decide), List.append_nil]; rfl
    · have hlt1 : ¬ (k : Int) < t.length := by omega
      obtain rfl : k = t.length := by omega
      have HE := Lib.hid (B_take t t.length)
      go_wp2
      go_ret
      rw [HE.out]
      refine ⟨?_, H1.out, HM1.out⟩
      rw [HH.out, List.drop_length]
      show _ = Ending.returned (.string (B (t.take t.length ++ [])))
      rw [List.append_nil]; rfl
end Go.Proofs.YtpjjdaenckedbaaDoor
