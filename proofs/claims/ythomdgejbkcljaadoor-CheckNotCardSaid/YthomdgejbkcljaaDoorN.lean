/- CheckNot. -/
import Derived.Test.YthomdgejbkcljaaDoorS
import Derived.OwnWalk
import Derived.Maps.AppendAt
import Derived.Laws.OwnMore
namespace Go.Proofs.YthomdgejbkcljaaDoor
open Go.RowKit
open Go.WideShapes (add_plain)

theorem info9 : (Tryd.prog.info? 9).map (fun i => (i.zero, i.size, i.bytes)) = some (some (.string ByteArray.empty), 1, 16) := by kernel_rfl
theorem not_two (x y : ByteArray) {op : ByteArray} (h : isTwo op = false) : twoS x op y = none := isTwo_none h x y
/-- `!` ahead turns it round. -/
theorem not_tells : ∀ (L : List ByteArray) (fs : List FactS), L.length ≤ 3 → (∀ a b, L = [a, b] → isTwo a = false) → tellS (b1 33 :: L) fs = notS (tellS L fs)
  | [], _, _, _ => rfl
  | [a], fs, _, _ => by
    show t2 (b1 33) a fs = notS (t1 a)
    unfold t2
    rw [if_pos rfl]
  | [a, b], fs, _, h => by
    show t3 (b1 33) a b fs = notS (t2 a b fs)
    unfold t3
    rw [isTwo_none (h a b rfl)]
    simp
  | [a, b, c], fs, _, _ => by
    show t4 (b1 33) a b c fs = notS (t3 a b c fs)
    unfold t4
    rw [if_pos rfl]
  | _ :: _ :: _ :: _ :: _, _, h, _ => by simp at h
theorem own_ge {w : World} {base : Nat} {e : TypeId} {sz n : Nat} {v : Value} {xs : List Value} (h : w.ownsRow base e sz v n xs) : ∀ k, v.ownBlock = some k → base ≤ k := by
  intro k hk
  obtain ⟨_, ⟨rfl, h0⟩ | ⟨g, cap, cur, rfl, hb, _⟩⟩ := h
  · cases hk
  · cases hk; exact hb
theorem own_args {w : World} {base : Nat} {v : Value} {L : List ByteArray} (h : w.ownsRow base 9 1 v L.length (L.map .string)) (hn : 0 < L.length) : ∃ g cap, v = .slice (some ⟨g, 0, none⟩) L.length cap ∧ ArgS w v L := by
  obtain ⟨_, ⟨rfl, h0⟩ | ⟨g, cap, cur, rfl, hb, _, hc, _⟩⟩ := id h
  · omega
  · refine ⟨g, cap, rfl, _, cap, rfl, hc, fun j hj => ⟨g, 0, rfl, ?_⟩⟩
    rw [Nat.zero_add, h.cellAt j (by omega)]
    simp [hj]
set_option maxHeartbeats 2000000 in
set_option maxRecDepth 100000 in
/-- CheckNot. -/
theorem not_law (v u : Value) (L : List ByteArray) (fs : List FactS) (w : World) (hL : ArgS w v L) (hz : ∀ s ∈ L, s.size ≤ 140737488355328) (hF : ArgF w u fs) (hn : fs.length ≤ 140737488355328) (hnil : ∀ c, v = .slice none L.length c → c = 0) :
    Calls Tryd.prog 5 #[v, u] w fun e w' => e = .returned (.bool true) ∧ Below w.heap.size w w' := by
  obtain ⟨a, cap, rfl, hcap, hF⟩ := hF
  obtain ⟨al, cl, rfl, hcl, hcells⟩ := hL
  have HL : Hid (ArgS w (.slice al L.length cl) L) := Lib.hid ⟨al, cl, rfl, hcl, hcells⟩
  have HCELLS := Lib.hid hcells
  have HF := Lib.hid hF
  have HZ := Lib.hid hz
  have HNIL := Lib.hid hnil
  clear hF hcells hz hcap hcl hnil
  by_cases h3 : 3 < L.length
  · have h31 : (3 : Int) < L.length := by omega
    clear h3 hn
    go_enter Tryd.func5, Tryd.ntmps5
    go_wp2_with fail
    refine (shown_any _).mono ?_
    rintro e w1 ⟨rfl, hb⟩
    have HB := Lib.hid hb
    clear hb
    go_wp2
    go_ret
    exact ⟨rfl, HB.out⟩
  have h31 : ¬ (3 : Int) < L.length := by omega
  by_cases h1000 : 1000 < fs.length
  · have h1 : (1000 : Int) < fs.length := by omega
    clear h1000 hn
    go_enter Tryd.func5, Tryd.ntmps5
    go_wp2_with fail
    refine (shown_any _).mono ?_
    rintro e w1 ⟨rfl, hb⟩
    have HB := Lib.hid hb
    clear hb
    go_wp2
    go_ret
    exact ⟨rfl, HB.out⟩
  have h1 : ¬ (1000 : Int) < fs.length := by omega
  obtain ⟨i0, hi, hz0, hz1, hz2⟩ := info_parts info9
  have HN3 := Lib.hid (And.intro h3 (And.intro h1000 hn))
  clear h3 h1000 hn
  go_enter Tryd.func5, Tryd.ntmps5
  go_wp2_with fail
  refine (shown_any _).mono ?_
  rintro e w1 ⟨rfl, hb⟩
  have HB := Lib.hid hb
  clear hb
  go_upto_region 4 with fail
  go_cut [6] from 23 to 25 (fun v6 wx => ∃ (g c : Nat), v6 = .slice (some ⟨g, 0, none⟩) (L.length + 1) c ∧ Hid (ArgS wx v6 (b1 33 :: L) ∧ Below w.heap.size w wx))
  case first =>
    have ho : (w1.alloc (.cells #[.string (b1 33)] 9)).ownsRow w1.heap.size 9 1 (.slice (some ⟨w1.heap.size, 0, none⟩) 1 1) 1 [.string (b1 33)] := World.ownsRow_lit w1 #[.string (b1 33)] 1 (Nat.le_refl _) (by decide) rfl
    have HO := Lib.hid ho
    cases al with
    | none =>
      obtain rfl : cl = 0 := HNIL.out cl rfl
      have hL0 : L = [] := by
        cases L with
        | nil => rfl
        | cons x l =>
          obtain ⟨b, off, hbo, _⟩ := HCELLS.out 0 (by simp)
          cases hbo
      subst hL0
      have hap := run_append_owned_none (P := Tryd.prog) (w1.alloc (.cells #[.string (b1 33)] 9)) w1.heap.size 22 22 9 i0 1 Tryd.underlying22 hi (.slice (some ⟨w1.heap.size, 0, none⟩) 1 1) 1 _ ho
      clear ho
      go_wp2
      go_meet
      exact ⟨w1.heap.size, 1, rfl, Lib.hid ⟨argS_new w1 [b1 33], HB.out.alloc HB.out.size _⟩⟩
    | some ad =>
      have hnews : ∀ j u, (L.map Value.string)[j]? = some u → (w1.alloc (.cells #[.string (b1 33)] 9)).cell? (ad.add j) = some u := fun j u hj => by
        have hjl : j < L.length := by
          have := (List.getElem?_eq_some_iff.1 hj).1
          simpa using this
        obtain ⟨b, off, hbo, hcc⟩ := HCELLS.out j hjl
        obtain rfl : ad = ⟨b, off, none⟩ := by simpa using hbo
        rw [add_plain, (HB.out.alloc HB.out.size _).cell (p := ⟨b, off + j, none⟩) (World.block_lt_of_cell? w _ hcc), hcc]
        simp [hjl] at hj
        rw [hj]
      have hlen3 := HN3.out.1
      clear ho
      go_wp2_with (at_builtin; refine wpList_append_own_at _ rfl _ _ 22 rfl w1.heap.size 9 i0 (.string ByteArray.empty) 1 16 Tryd.underlying22 hi hz0 hz1 hz2 rfl (by decide) _ _ _ rfl HO.out ad L.length cl (L.map .string) rfl (by simp) hnews (by simp [Value.oneCell']) (by unfold maxLen; omega) (by omega) (by simp) ?_; intro v' w5 hown' hgrow _ _)
      have hown2 : w5.ownsRow w1.heap.size 9 1 v' (b1 33 :: L).length ((b1 33 :: L).map .string) := by
        have e1 : (b1 33 :: L).length = 1 + L.length := by simp [Nat.add_comm]
        rw [e1]; exact hown'
      obtain ⟨g, c, hv, hA⟩ := own_args hown2 (by simp)
      have HB5 := Lib.hid ((HB.out.alloc HB.out.size (.cells #[.string (b1 33)] 9)).grown hgrow (by have := HB.out.size; rw [World.size_alloc]; omega) (fun k hk => Nat.le_trans HB.out.size (own_ge HO.out k hk)))
      subst hv
      have HA := Lib.hid hA
      clear hA hown2 hown' hgrow hnews
      go_wp2
      go_meet
      exact ⟨g, c, rfl, Lib.hid ⟨HA.out, HB5.out⟩⟩
  case rest =>
    obtain ⟨g, c, rfl, HX⟩ := hcut
    by_cases hl2 : L.length = 2
    · have hm3 : (L.length : Int) + 1 = 3 := by omega
      obtain ⟨a0, a1, hLe⟩ : ∃ a0 a1, L = [a0, a1] := by
        match L, hl2 with
        | [x, y], _ => exact ⟨x, y, rfl⟩
      have hcc : wc.cell? ⟨g, 1, none⟩ = some (.string a0) := by
        obtain ⟨aa, cc, hv, _, hcl2⟩ := HX.out.1
        obtain ⟨b, off, hbo, hc2⟩ := hcl2 1 (by rw [hLe]; simp)
        have hv2 : some (⟨g, 0, none⟩ : Addr) = aa := by simp at hv; exact hv.1
        rw [← hv2] at hbo
        obtain ⟨rfl, rfl⟩ : g = b ∧ 0 = off := by simpa using hbo
        have h3 : (b1 33 :: L)[1]'(by rw [hLe]; simp) = a0 := by simp [hLe]
        rw [h3] at hc2
        exact hc2
      obtain ⟨q, hq⟩ : ∃ q, isTwo a0 = q := ⟨_, rfl⟩
      have HTW : Hid (∀ W, Calls Tryd.prog 13 #[.string a0] W fun e w' => e = .returned (.bool q) ∧ w' = W) := Lib.hid (fun W => by
        have := Two_any a0 W
        rw [hq] at this
        exact this)
      cases q with
      | true =>
        clear hl2 hLe hq
        go_wp2_with fail
        refine (HTW.out _).mono ?_
        rintro e w2 ⟨rfl, rfl⟩
        go_wp2
        go_ret
        exact ⟨rfl, HX.out.2⟩
      | false =>
        have HTWO : Hid (∀ x y, L = [x, y] → isTwo x = false) := Lib.hid (fun x y h => by
          rw [hLe] at h
          simp at h
          rw [← h.1]; exact hq)
        clear hl2 hLe hq
        go_wp2_with fail
        refine (HTW.out _).mono ?_
        rintro e w2 ⟨rfl, rfl⟩
        clear hcc
        have HNT := Lib.hid (not_tells L fs (by have := HN3.out.1; omega) HTWO.out)
        have HC1 := Lib.hid (check_any (.slice al L.length cl) (.slice a fs.length cap) L fs w2 (HL.out.below HX.out.2) HZ.out (HF.out.below HX.out.2) HN3.out.2.2)
        have HZ2 : Hid (∀ s ∈ b1 33 :: L, s.size ≤ 140737488355328) := Lib.hid (fun s hs => by
          rcases List.mem_cons.1 hs with rfl | hs
          · decide
          · exact HZ.out s hs)
        go_wp2_with fail
        refine HC1.out.mono ?_
        rintro e w9 ⟨he, hb⟩
        have HB2 := Lib.hid (HX.out.2.trans (hb.mono HX.out.2.size))
        have HC2 := Lib.hid (check_any (.slice (some ⟨g, 0, none⟩) (L.length + 1) c) (.slice a fs.length cap) (b1 33 :: L) fs w9 (HX.out.1.below hb) HZ2.out (HF.out.below HB2.out) HN3.out.2.2)
        clear hb
        cases ht : tellS L fs with
        | inr x =>
          have HM : Hid (tellS (b1 33 :: L) fs = .inr x) := Lib.hid (by rw [HNT.out, ht]; rfl)
          rw [ht] at he
          replace he : e = .returned (.tuple #[.int .i64 0, .string x, .bool true]) := he
          subst he
          have hxx := text_same x
          clear ht
          go_wp2_with fail
          refine HC2.out.mono ?_
          rintro e w3 ⟨he, hb⟩
          rw [HM.out] at he
          replace he : e = .returned (.tuple #[.int .i64 0, .string x, .bool true]) := he
          subst he
          have HB3 := Lib.hid (HB2.out.trans (hb.mono HB2.out.size))
          clear hb
          go_wp2
          go_ret
          exact ⟨by simp, HB3.out⟩
        | inl n =>
          have hn2 := tellS_le ht
          have HM : Hid (tellS (b1 33 :: L) fs = .inl (if n = 2 then 2 else 1 - n)) := Lib.hid (by rw [HNT.out, ht]; rfl)
          rw [ht] at he
          replace he : e = .returned (.tuple #[.int .i64 n, .string noB, .bool false]) := he
          subst he
          clear ht
          obtain rfl | rfl | rfl : n = 0 ∨ n = 1 ∨ n = 2 := by omega
          · go_wp2_with fail
            refine HC2.out.mono ?_
            rintro e w3 ⟨he, hb⟩
            rw [HM.out] at he
            replace he : e = .returned (.tuple #[.int .i64 1, .string noB, .bool false]) := he
            subst he
            have HB3 := Lib.hid (HB2.out.trans (hb.mono HB2.out.size))
            clear hb hn2
            go_wp2
            go_ret
            exact ⟨by first | rfl | simp, HB3.out⟩
          · go_wp2_with fail
            refine HC2.out.mono ?_
            rintro e w3 ⟨he, hb⟩
            rw [HM.out] at he
            replace he : e = .returned (.tuple #[.int .i64 0, .string noB, .bool false]) := he
            subst he
            have HB3 := Lib.hid (HB2.out.trans (hb.mono HB2.out.size))
            clear hb hn2
            go_wp2
            go_ret
            exact ⟨by first | rfl | simp, HB3.out⟩
          · go_wp2_with fail
            refine HC2.out.mono ?_
            rintro e w3 ⟨he, hb⟩
            rw [HM.out] at he
            replace he : e = .returned (.tuple #[.int .i64 2, .string noB, .bool false]) := he
            subst he
            have HB3 := Lib.hid (HB2.out.trans (hb.mono HB2.out.size))
            clear hb hn2
            go_wp2
            go_ret
            exact ⟨by first | rfl | simp, HB3.out⟩
    · have hm3 : ¬ (L.length : Int) + 1 = 3 := by omega
      have HTWO : Hid (∀ x y, L = [x, y] → isTwo x = false) := Lib.hid (fun x y h => by rw [h] at hl2; exact absurd rfl hl2)
      clear hl2
      have HNT := Lib.hid (not_tells L fs (by have := HN3.out.1; omega) HTWO.out)
      have HC1 := Lib.hid (check_any (.slice al L.length cl) (.slice a fs.length cap) L fs wc (HL.out.below HX.out.2) HZ.out (HF.out.below HX.out.2) HN3.out.2.2)
      have HZ2 : Hid (∀ s ∈ b1 33 :: L, s.size ≤ 140737488355328) := Lib.hid (fun s hs => by
        rcases List.mem_cons.1 hs with rfl | hs
        · decide
        · exact HZ.out s hs)
      go_wp2_with fail
      refine HC1.out.mono ?_
      rintro e w2 ⟨he, hb⟩
      have HB2 := Lib.hid (HX.out.2.trans (hb.mono HX.out.2.size))
      have HC2 := Lib.hid (check_any (.slice (some ⟨g, 0, none⟩) (L.length + 1) c) (.slice a fs.length cap) (b1 33 :: L) fs w2 (HX.out.1.below hb) HZ2.out (HF.out.below HB2.out) HN3.out.2.2)
      clear hb
      cases ht : tellS L fs with
      | inr x =>
        have HM : Hid (tellS (b1 33 :: L) fs = .inr x) := Lib.hid (by rw [HNT.out, ht]; rfl)
        rw [ht] at he
        replace he : e = .returned (.tuple #[.int .i64 0, .string x, .bool true]) := he
        subst he
        have hxx := text_same x
        clear ht
        go_wp2_with fail
        refine HC2.out.mono ?_
        rintro e w3 ⟨he, hb⟩
        rw [HM.out] at he
        replace he : e = .returned (.tuple #[.int .i64 0, .string x, .bool true]) := he
        subst he
        have HB3 := Lib.hid (HB2.out.trans (hb.mono HB2.out.size))
        clear hb
        go_wp2
        go_ret
        exact ⟨by simp, HB3.out⟩
      | inl n =>
        have hn2 := tellS_le ht
        have HM : Hid (tellS (b1 33 :: L) fs = .inl (if n = 2 then 2 else 1 - n)) := Lib.hid (by rw [HNT.out, ht]; rfl)
        rw [ht] at he
        replace he : e = .returned (.tuple #[.int .i64 n, .string noB, .bool false]) := he
        subst he
        clear ht
        obtain rfl | rfl | rfl : n = 0 ∨ n = 1 ∨ n = 2 := by omega
        · go_wp2_with fail
          refine HC2.out.mono ?_
          rintro e w3 ⟨he, hb⟩
          rw [HM.out] at he
          replace he : e = .returned (.tuple #[.int .i64 1, .string noB, .bool false]) := he
          subst he
          have HB3 := Lib.hid (HB2.out.trans (hb.mono HB2.out.size))
          clear hb hn2
          go_wp2
          go_ret
          exact ⟨by first | rfl | simp, HB3.out⟩
        · go_wp2_with fail
          refine HC2.out.mono ?_
          rintro e w3 ⟨he, hb⟩
          rw [HM.out] at he
          replace he : e = .returned (.tuple #[.int .i64 0, .string noB, .bool false]) := he
          subst he
          have HB3 := Lib.hid (HB2.out.trans (hb.mono HB2.out.size))
          clear hb hn2
          go_wp2
          go_ret
          exact ⟨by first | rfl | simp, HB3.out⟩
        · go_wp2_with fail
          refine HC2.out.mono ?_
          rintro e w3 ⟨he, hb⟩
          rw [HM.out] at he
          replace he : e = .returned (.tuple #[.int .i64 2, .string noB, .bool false]) := he
          subst he
          have HB3 := Lib.hid (HB2.out.trans (hb.mono HB2.out.size))
          clear hb hn2
          go_wp2
          go_ret
          exact ⟨by first | rfl | simp, HB3.out⟩
end Go.Proofs.YthomdgejbkcljaaDoor
