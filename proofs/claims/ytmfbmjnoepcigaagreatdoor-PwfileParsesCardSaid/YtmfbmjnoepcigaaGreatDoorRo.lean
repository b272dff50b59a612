/- The document's Parse. -/
import Derived.Test.YtmfbmjnoepcigaaGreatDoorRk
import Derived.Test.YtmfbmjnoepcigaaGreatDoorRj
import Derived.Test.YtmfbmjnoepcigaaGreatDoorRa
namespace Go.Proofs.YtmfbmjnoepcigaaGreatDoor
open Go.RowKit

theorem ex_all (s : ByteArray) : (s.extract 0 s.size).data.toList = s.data.toList := by
  rw [ex_data, List.drop_zero, List.take_of_length_le (by rw [sz]; exact Nat.le_refl _)]
theorem ex_none {s : ByteArray} {f : Nat} (h : s.size ≤ f) : (s.extract f s.size).data.toList = [] := by
  rw [ex_data, List.drop_eq_nil_iff, List.length_take, sz]; omega
theorem ex_le (s : ByteArray) (f k : Nat) : (s.extract f k).size ≤ s.size := by
  rw [← sz, ex_data, List.length_drop, List.length_take, sz]; omega
theorem found_in {L : List UserS} {x : ByteArray} {k : Nat} (hk : k < L.length) (h : isName x L[k] = true) : x ∈ namesU L := by
  unfold namesU
  rw [← of_decide_eq_true h]
  exact List.mem_map_of_mem (List.getElem_mem hk)
theorem found_not {L : List UserS} {x : ByteArray} (h : ∀ f ∈ L, isName x f = false) : x ∉ namesU L := fun hm => by
  obtain ⟨f, hf, he⟩ := List.mem_map.1 hm
  have := h f hf
  unfold isName at this
  rw [decide_eq_true he] at this
  cases this
set_option maxHeartbeats 8000000 in
set_option maxRecDepth 100000 in
theorem rparse_any (s : ByteArray) (w : World) : Calls Tryz.prog 7 #[.string s] w (ParseP s w) := by
  by_cases hlong : 4096 < s.size
  · have hl1 : (4096 : Int) < s.size := by omega
    have HP : Hid (parseR s.data.toList = ([], 0, 10)) := Lib.hid (parse_long (by rw [sz]; exact hlong))
    clear hlong
    go_enter Tryz.func7, Tryz.ntmps7
    go_wp2
    exact bodyPost_ret (v := .tuple #[.slice none 0 0, .int .i64 0, .int .i64 10]) (by simp [results, Tryz.results7, go_sem]) rfl (parseP_err HP.out (Below.refl _ _) rfl)
  · have hl1 : ¬ (4096 : Int) < s.size := by omega
    have HE := Lib.hid (fun n e (h : parseL [] 1 s.data.toList = .error (n, e)) => parse_err (by rw [sz]; exact hlong) h)
    have HK := Lib.hid (fun L (h : parseL [] 1 s.data.toList = .ok L) => parse_ok (by rw [sz]; exact hlong) h)
    have hs : s.size ≤ 4096 := by omega
    obtain ⟨i0, hi, hz0, hz1, hz4⟩ := info_parts info33
    clear hlong
    go_enter Tryz.func7, Tryz.ntmps7
    go_wp2
    go_loopw [5, 6, 7, 8, 9, 10, 11, 12] (fun v5 v6 v7 v8 v9 v10 v11 v12 wr => ∃ (f : Nat) (L : List UserS) (n : Nat), v6 = .int .i64 f ∧ v7 = .int .i64 n ∧ f ≤ s.size ∧ n ≤ f + 1 ∧ L.length ≤ 8 ∧ Hid (OwnU wr w.heap.size v5 L ∧ Below w.heap.size w wr ∧ parseL L n (s.extract f s.size).data.toList = parseL [] 1 s.data.toList)) (fun v5 v6 v7 v8 v9 v10 v11 v12 _ => s.size - (intOf v6).toNat)
    case atStart => exact ⟨0, [], 1, rfl, rfl, by omega, by omega, by simp, Lib.hid ⟨World.ownsRow_nil _ _ _ _, Below.refl _ _, by rw [ex_all]⟩⟩
    case round =>
      obtain ⟨f, L, n, rfl, rfl, hf, hn, hL, HH⟩ := hrel
      obtain ⟨la, lc, rfl⟩ := HH.out.1.form
      by_cases hft : f < s.size
      · have hft1 : (f : Int) < s.size := by omega
        go_wp2
        go_loopw [8] (fun v8 w2 => ∃ k : Nat, v8 = .int .i64 k ∧ f ≤ k ∧ k ≤ s.size ∧ Hid (OwnU w2 w.heap.size (.slice la L.length lc) L ∧ Below w.heap.size w w2 ∧ NoTen s f k)) (fun v8 _ => s.size - (intOf v8).toNat)
        case atStart => exact ⟨f, rfl, Nat.le_refl _, hf, Lib.hid ⟨HH.out.1, HH.out.2.1, NoTen.start s f⟩⟩
        case round =>
          obtain ⟨k, rfl, hfk, hks, HQ⟩ := hrel
          by_cases hkt : k < s.size
          · have hkt1 : (k : Int) < s.size := by omega
            by_cases hc : s[k] = 10
            · have hcb : ((s[k].toNat : Int) != 10) = false := by rw [hc]; rfl
              have HNT := Lib.hid HQ.out.2.2
              have hk10 : ∀ h : k < s.size, s[k] = 10 := fun _ => hc
              have HTC := Lib.hid (ten_cut hfk hkt hc)
              have HBAD := Lib.hid (fun (h : ∀ v, ¬ IsLine (s.extract f k).data.toList v) => HE.out n 17 (by rw [← HH.out.2.2]; exact round_no hfk hks hft HNT.out hk10 (.inl h)))
              have hfs1 : (f : Int) ≤ k := by omega
              have hke : ((k : Int) == s.size) = false := by
                cases hh : ((k : Int) == s.size) with
                | false => rfl
                | true => simp at hh; omega
              have HOQ := Lib.hid HQ.out.1
              have HBQ := Lib.hid HQ.out.2.1
              have HPQ := Lib.hid HH.out.2.2
              clear hk10 hc HQ HH
              go_wp2_with fail
              refine (ruser_any (s.extract f k) _ (by have := ex_le s f k; omega)).mono ?_
              rintro e w3 ⟨u, ok2, rfl, hb2, h1, h2⟩
              have HB2 := Lib.hid (HBQ.out.trans (hb2.mono HBQ.out.size))
              have HO2 := Lib.hid (HOQ.out.grown hb2)
              have H1 := Lib.hid h1
              have H2 := Lib.hid h2
              clear hb2 h1 h2 HBQ HOQ
              cases ok2 with
              | false =>
                have HR := Lib.hid (HBAD.out (H2.out rfl))
                unfold userC
                go_wp2
                exact bodyPost_ret (v := .tuple #[.slice none 0 0, .int .i64 n, .int .i64 17]) (by simp [results, Tryz.results7, go_sem]) rfl (parseP_err HR.out (HB2.out.alloc HB2.out.size _) rfl)
              | true =>
                have HSTEP := Lib.hid (round_line (L := L) (n := n) HTC.out (H1.out rfl))
                clear HTC HBAD H1 H2 HNT
                unfold userC
                go_upto_region 14 with fail
                have hw4 : Below w3.heap.size w3 (w3.alloc (.cells (userC u) 29)) := (Below.refl _ _).alloc (Nat.le_refl _) _
                have hu4 : UC (w3.alloc (.cells (userC u) 29)) w3.heap.size 0 u := box_six (u := 29) (Below.refl _ _)
                have HB4 := Lib.hid (HB2.out.trans (hw4.mono HB2.out.size))
                have HO4 := Lib.hid (HO2.out.grown hw4)
                clear hw4
                have hW : ∃ W4, w3.alloc (.cells (userC u) 29) = W4 := ⟨_, rfl⟩
                obtain ⟨W4, hW4⟩ := hW
                rw [hW4] at hu4 HB4 HO4
                have hW4' : w3.alloc (.cells #[.string u.name, .string u.pass, .int .i64 u.id, .int .i64 u.group, .string u.home, .string u.shell] 29) = W4 := hW4
                rw [hW4']
                have HU4 := Lib.hid hu4
                obtain ⟨c0, c1, c2, c3, c4, c5⟩ := hu4.at0
                clear hu4 hW4 hW4'
                go_wp2_with fail
                refine (rfind_any _ L u.name W4 (own_inU HO4.out) (by omega)).mono ?_
                rintro e w5 ⟨hb5, hfd⟩
                have HB5 := Lib.hid (HB4.out.trans (hb5.mono HB4.out.size))
                have HO5 := Lib.hid (HO4.out.grown hb5)
                have HU5 := Lib.hid (HU4.out.below hb5)
                clear hb5 c0 c1 c2 c3 c4 c5 HB4 HO4 HU4
                rcases hfd with ⟨j, hj, hp, _, rfl⟩ | ⟨hno, rfl⟩
                · have HR := Lib.hid (HE.out n 5 (by rw [← HPQ.out, HSTEP.out, if_pos (found_in hj hp)]))
                  generalize L[j]'hj = g
                  unfold userC
                  go_wp2
                  exact bodyPost_ret (v := .tuple #[.slice none 0 0, .int .i64 n, .int .i64 5]) (by simp [results, Tryz.results7, go_sem]) rfl (parseP_err HR.out (HB5.out.alloc HB5.out.size _) rfl)
                · have hnm : u.name ∉ namesU L := found_not hno
                  clear hno
                  have hw6 : Below w5.heap.size w5 (w5.alloc (.cells (userC zeroU) 29)) := (Below.refl _ _).alloc (Nat.le_refl _) _
                  have HB6 := Lib.hid (HB5.out.trans (hw6.mono HB5.out.size))
                  have HO6 := Lib.hid (HO5.out.grown hw6)
                  have HU6 := Lib.hid (HU5.out.below hw6)
                  clear hw6 HB5 HO5 HU5
                  obtain ⟨W6, hW6⟩ : ∃ W6, w5.alloc (.cells (userC zeroU) 29) = W6 := ⟨_, rfl⟩
                  rw [hW6] at HB6 HO6 HU6
                  unfold userC at hW6
                  have hz : userC zeroU = #[.string zeroU.name, .string zeroU.pass, .int .i64 zeroU.id, .int .i64 zeroU.group, .string zeroU.home, .string zeroU.shell] := rfl
                  rw [hz]
                  generalize zeroU = g at *
                  go_upto_region 15 with fail
                  by_cases h8 : L.length = 8
                  · have HR := Lib.hid (HE.out n 12 (by rw [← HPQ.out, HSTEP.out, if_neg hnm, if_pos h8]))
                    have h81 : ((L.length : Int) == 8) = true := by rw [h8]; rfl
                    clear hnm h8
                    go_wp2
                    exact bodyPost_ret (v := .tuple #[.slice none 0 0, .int .i64 n, .int .i64 12]) (by simp [results, Tryz.results7, go_sem]) rfl (parseP_err HR.out HB6.out rfl)
                  · have HR := Lib.hid (show parseL (L ++ [u]) (n + 1) (s.extract (k + 1) s.size).data.toList = parseL [] 1 s.data.toList by rw [← HPQ.out, HSTEP.out, if_neg hnm, if_neg h8])
                    have h81 : ((L.length : Int) == 8) = false := by
                      cases hh : ((L.length : Int) == 8) with
                      | false => rfl
                      | true => simp at hh; omega
                    have hL7 : L.length ≤ 7 := by omega
                    clear hnm h8
                    obtain ⟨c0, c1, c2, c3, c4, c5⟩ := HU6.out.at0
                    have HNAT := Lib.hid (show n ≤ f + 1 ∧ f ≤ k ∧ k < s.size ∧ L.length ≤ 7 ∧ s.size ≤ 4096 from ⟨hn, hfk, hkt, hL7, hs⟩)
                    have hk4 : (k : Int) ≤ 4096 := by omega
                    have hn4 : (n : Int) ≤ 4097 := by omega
                    clear hn hfk hL hL7 hs hl1 hf hks hft hft1 hfs1
                    go_wp2_with (at_builtin; refine wpList_append_own _ rfl _ _ 23 rfl w.heap.size 29 i0 (.agg (userC g)) 6 80 Tryz.underlying23 hi hz0 hz1 hz4 rfl (by decide) _ _ _ rfl (own_below HO6.out ((Below.refl _ _).alloc (Nat.le_refl _) _)) ⟨_, 0, none⟩ 1 1 [.string u.name, .string u.pass, .int .i64 u.id, .int .i64 u.group, .string u.home, .string u.shell] rfl rfl (six_new _ _ _ _) (by simp [Value.oneCell']) (by unfold maxLen; have := HNAT.out; omega) (by have := HNAT.out; omega) (by have := HB6.out.size; simp; omega) ?_; intro v' w7 hown' hgrow _)
                    have HO7 := Lib.hid (OwnU.snoc hown')
                    have HB7 := Lib.hid (below_grown (HB6.out.alloc HB6.out.size _) (Nat.le_refl _) hgrow (own_ge HO6.out))
                    clear hown' hgrow c0 c1 c2 c3 c4 c5
                    go_wp2
                    obtain ⟨hn, hfk, _, hL7, hs⟩ := HNAT.out
                    have hwr : wrap64 ((n : Int) + 1) = ((n + 1 : Nat) : Int) := by unfold wrap64; omega
                    have hwk : wrap64 ((k : Int) + 1) = ((k + 1 : Nat) : Int) := by unfold wrap64; omega
                    go_roundw
                    case rel => exact ⟨k + 1, L ++ [u], n + 1, by first | rfl | go_num | rw [hwk], by first | rfl | go_num | rw [hwr], by omega, by omega, by simp; omega, Lib.hid ⟨HO7.out, HB7.out, HR.out⟩⟩
                    case measure => simp [intOf]; omega
            · have hcb : ((s[k].toNat : Int) != 10) = true := by
                simp; exact fun h => hc (UInt8.toNat_inj.1 (by have e : (10 : UInt8).toNat = 10 := rfl; omega))
              have HX := Lib.hid (HQ.out.2.2.next hkt hc)
              clear hc
              go_wp2
              go_roundw
              case rel => exact ⟨k + 1, by go_num, by omega, by omega, Lib.hid ⟨HQ.out.1, HQ.out.2.1, HX.out⟩⟩
              case measure => simp [intOf]; omega
          · have hkt1 : ¬ (k : Int) < s.size := by omega
            obtain rfl : k = s.size := by omega
            have HR := Lib.hid (HE.out n 17 (by rw [← HH.out.2.2]; exact round_no (Nat.le_of_lt hft) (Nat.le_refl _) hft HQ.out.2.2 (fun h => by omega) (.inr rfl)))
            have hfs1 : (f : Int) ≤ s.size := by omega
            have hke : ((s.size : Int) == s.size) = true := by simp
            go_wp2_with fail
            refine (ruser_any (s.extract f s.size) _ (by have := ex_le s f s.size; omega)).mono ?_
            rintro e w3 ⟨u, ok2, rfl, hb2, _, _⟩
            have HB2 := Lib.hid (HQ.out.2.1.trans (hb2.mono HQ.out.2.1.size))
            clear hb2
            unfold userC
            cases ok2 with
            | false =>
              go_wp2
              exact bodyPost_ret (v := .tuple #[.slice none 0 0, .int .i64 n, .int .i64 17]) (by simp [results, Tryz.results7, go_sem]) rfl (parseP_err HR.out (HB2.out.alloc HB2.out.size _) rfl)
            | true =>
              go_wp2
              exact bodyPost_ret (v := .tuple #[.slice none 0 0, .int .i64 n, .int .i64 17]) (by simp [results, Tryz.results7, go_sem]) rfl (parseP_err HR.out (HB2.out.alloc HB2.out.size _) rfl)
      · have hft1 : ¬ (f : Int) < s.size := by omega
        have HT : Hid (parseL [] 1 s.data.toList = .ok L) := Lib.hid (by
          rw [← HH.out.2.2, ex_none (by omega), parseL_nil])
        go_wp2
        exact bodyPost_ret (v := .tuple #[.slice la L.length lc, .int .i64 0, .int .i64 0]) (by simp [results, Tryz.results7, go_sem]) rfl (parseP_ok (HK.out _ HT.out) HH.out.1 HH.out.2.1 rfl)
end Go.Proofs.YtmfbmjnoepcigaaGreatDoor
