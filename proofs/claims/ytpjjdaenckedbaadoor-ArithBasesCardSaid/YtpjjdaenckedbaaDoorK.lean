/- Expressions: what is known while one is reckoned; a name's value. -/
import Derived.Test.YtpjjdaenckedbaaDoorJ
import Derived.Test.YtpjjdaenckedbaaDoorEv
import Derived.Maps.AppendAt
import Derived.Lib.AppendIntMem
import Derived.Lib.ItoaMem
import Derived.Sort.Grow
namespace Go.Proofs.YtpjjdaenckedbaaDoor
open Go.RowKit

def HasP (w : World) : Prop := Lib.TabIs Tryd.prog w "internal/strconv.uint64pow10" .u64 Lib.pow10Tab
theorem HasP.below {w w' : World} (h : HasP w) (hb : Below w.heap.size w w') : HasP w' := Lib.tabBelow_of_tabIs h _ hb
theorem below_grow (w : World) (k : Nat) (os : Array Obj) : Below w.heap.size w (Go.Sort.grow (w.drewN k) os) :=
  ⟨rfl, rfl, rfl, by rw [Go.Sort.size_grow]; exact Nat.le_add_right _ _, fun j hj => by
    show (w.heap ++ os)[j]? = w.heap[j]?
    rw [Array.getElem?_append_left hj]⟩
theorem dec_lib : ∀ (k u : Nat), u ≤ k → Lib.decDigits u = decN u
  | k, u, h => by
    by_cases h9 : u ≤ 9
    · rw [decN_lt h9, Lib.decDigits_one (by omega)]; rfl
    · match k, h with
      | 0, h => omega
      | k + 1, h =>
        rw [decN_ge h9, Lib.decDigits, dif_neg (by omega), dec_lib k (u / 10) (by omega)]
        rfl
theorem itoa_dec (n : Int) : Lib.itoa n = decI n := by
  unfold Lib.itoa decI
  by_cases h : n < 0
  · rw [if_pos h, if_pos h, dec_lib _ _ (Nat.le_refl _)]
  · rw [if_neg h, if_neg h, dec_lib _ _ (Nat.le_refl _), show n.toNat = n.natAbs by omega]
theorem format_any (n : Int) (hn : IsI n) (w : World) (hW : HasP w) : Calls Tryd.prog 41 #[.int .i64 n, .int .i64 10] w fun e w' => e = .returned (.string (B (decI n))) ∧ Below w.heap.size w w' := by
  refine (Tryd.strconv_FormatInt_10 n hn.1 hn.2 w hW).mono ?_
  rintro e w' ⟨rfl, k, os, rfl⟩
  refine ⟨?_, below_grow w k os⟩
  rw [itoa_dec]; rfl
def cellsV (l : List VarS) : List Value := l.flatMap varL
theorem cellsV_cons (u : VarS) (L : List VarS) : cellsV (u :: L) = varL u ++ cellsV L := by simp [cellsV]
theorem cellsV_snoc (L : List VarS) (u : VarS) : cellsV (L ++ [u]) = cellsV L ++ varL u := by simp [cellsV]
theorem varL_len (u : VarS) : (varL u).length = 4 := rfl
theorem cellsV_len : ∀ L : List VarS, (cellsV L).length = L.length * 4
  | [] => rfl
  | u :: L => by rw [cellsV_cons, List.length_append, varL_len, cellsV_len L, List.length_cons]; omega
theorem cellsV_at : ∀ (L : List VarS) (j : Nat) (hj : j < L.length) (i : Nat), i < 4 → (cellsV L)[j * 4 + i]? = (varL L[j])[i]?
  | [], j, hj, _, _ => absurd hj (Nat.not_lt_zero j)
  | u :: L, 0, _, i, hi => by
    rw [cellsV_cons, Nat.zero_mul, Nat.zero_add, List.getElem?_append_left (by rw [varL_len]; exact hi)]
    simp
  | u :: L, j + 1, hj, i, hi => by
    rw [cellsV_cons, List.getElem?_append_right (by rw [varL_len]; omega), varL_len, show (j + 1) * 4 + i - 4 = j * 4 + i by omega]
    have := cellsV_at L j (by simpa using hj) i hi
    simpa using this
theorem cellsV_set (p : Bytes) : ∀ (L : List VarS) (k : Nat) (hk : k < L.length), cellsV (L.set k ⟨L[k].name, p⟩) = (cellsV L).set (k * 4 + 1) (.string (B p))
  | [], k, hk => absurd hk (Nat.not_lt_zero k)
  | u :: L, 0, _ => by
    rw [List.set_cons_zero, cellsV_cons, cellsV_cons]
    rfl
  | u :: L, k + 1, hk => by
    rw [List.set_cons_succ, cellsV_cons, cellsV_cons]
    have ih := cellsV_set p L k (by simpa using hk)
    rw [List.getElem_cons_succ, ih, List.set_append_right _ _ (by rw [varL_len]; omega), varL_len, show (k + 1) * 4 + 1 - 4 = k * 4 + 1 by omega]
def OwnV (w : World) (N : Nat) (v : Value) (L : List VarS) : Prop := w.ownsRow N 25 4 v L.length (cellsV L)
theorem OwnV.inV {w : World} {N : Nat} {v : Value} {L : List VarS} (h : OwnV w N v L) : InV w v L := by
  obtain ⟨hl, h2⟩ := h
  rcases h2 with ⟨rfl, h0⟩ | ⟨g, cap, cur, rfl, hB, hg, hcap, hmax, hsz, htake⟩
  · refine ⟨none, 0, by rw [h0], fun j hj => by omega⟩
  · refine ⟨some ⟨g, 0, none⟩, cap, rfl, fun j hj => ⟨g, 0, rfl, fun i hi => ?_⟩⟩
    rw [heap_cell hg, ← cellsV_at L j hj i hi, ← htake, List.getElem?_take, if_pos (by omega)]
    simp
theorem OwnV.below {w w' : World} {N : Nat} {v : Value} {L : List VarS} (h : OwnV w N v L) (hb : Below w.heap.size w w') : OwnV w' N v L := by
  obtain ⟨h1, ⟨h2, h3⟩ | ⟨g, cap, cur, h2, hB, hh, rest⟩⟩ := h
  · exact ⟨h1, .inl ⟨h2, h3⟩⟩
  · exact ⟨h1, .inr ⟨g, cap, cur, h2, hB, (hb.block g (Array.getElem?_eq_some_iff.1 hh).1).trans hh, rest⟩⟩
/-- What is known while an expression is reckoned: the world's block is the first one behind `w0`. -/
def St (w0 : World) (v1 : Value) (st : List VarS) (w : World) : Prop := Below w0.heap.size w0 w ∧ ∃ v2, w.heap[w0.heap.size]? = some (.cells #[v1, v2] 47 (0, 0)) ∧ OwnV w (w0.heap.size + 1) v2 st
theorem St.below {w0 w w' : World} {v1 : Value} {st : List VarS} (h : St w0 v1 st w) (hb : Below w.heap.size w w') : St w0 v1 st w' := by
  obtain ⟨h1, v2, h2, h3⟩ := h
  exact ⟨h1.trans (hb.mono h1.size), v2, (hb.block _ (Array.getElem?_eq_some_iff.1 h2).1).trans h2, h3.below hb⟩
def valE (x : Option Int) : Ending := match x with
  | some n => .returned (.int .i64 n)
  | none => .panicked [{ v := .iface 27 (.int .i64 20), recovered := false }]
theorem numV_cut {s : Bytes} (hs : s ≠ []) : numV s = if headIs [45] s then (constantS (s.drop 1)).map fun n => w64 (0 - n) else constantS s := by
  unfold numV; rw [if_neg hs]
theorem cut_yes (s : Bytes) (h : headIs [45] s = true) (w : World) : Calls Tryd.prog 39 #[.string (B s), .string (B [45])] w fun e w' => e = .returned (.tuple #[.string (B (s.drop 1)), .bool true]) ∧ w' = w := by
  refine (Tryd.strings_CutPrefix (B s) (B [45]) w).mono ?_
  rintro e w' ⟨rfl, rfl⟩
  refine ⟨?_, rfl⟩
  have e1 : Lib.hasPrefix (B s).data.toList (B [45]).data.toList = true := h
  have e2 : Lib.trimPrefix (B s).data.toList (B [45]).data.toList = s.drop 1 := by unfold Lib.trimPrefix; rw [e1]; rfl
  rw [e1, e2]; rfl
theorem cut_no (s : Bytes) (h : headIs [45] s = false) (w : World) : Calls Tryd.prog 39 #[.string (B s), .string (B [45])] w fun e w' => e = .returned (.tuple #[.string (B s), .bool false]) ∧ w' = w := by
  refine (Tryd.strings_CutPrefix (B s) (B [45]) w).mono ?_
  rintro e w' ⟨rfl, rfl⟩
  refine ⟨?_, rfl⟩
  have e1 : Lib.hasPrefix (B s).data.toList (B [45]).data.toList = false := h
  have e2 : Lib.trimPrefix (B s).data.toList (B [45]).data.toList = s := by unfold Lib.trimPrefix; rw [e1]; rfl
  rw [e1, e2]; rfl
theorem St.vars {w0 w : World} {v1 : Value} {st vars : List VarS} (h : St w0 v1 st w) (hv : InV w0 v1 vars) : InV w v1 vars := hv.below h.1
abbrev ptr0 (k : Nat) : Value := .pointer (some ⟨k, 0, none⟩)
theorem neg_end (n : Int) : Ending.returned (.int .i64 (wrap64 (-n))) = valE ((some n).map fun n => w64 (0 - n)) := by
  show _ = Ending.returned (.int .i64 (w64 (0 - n)))
  rw [w64_wrap, Int.zero_sub]
def ValP (w0 : World) (v1 : Value) (vars st : List VarS) (x : Bytes) (e : Ending) (w' : World) : Prop := e = valE (numV (lookV vars st x)) ∧ St w0 v1 st w'
set_option maxHeartbeats 4000000 in
theorem value_any {w0 w : World} {v1 : Value} {vars st : List VarS} (x : Bytes) (h : St w0 v1 st w) (hv : InV w0 v1 vars) (hS : VS st) (hV : VS vars) (hsl : st.length ≤ 1000) (hvl : vars.length ≤ 140737488355328) :
    Calls Tryd.prog 24 #[ptr0 w0.heap.size, .string (B x)] w (ValP w0 v1 vars st x) := by
  obtain ⟨hb0, v2, hw2, ho2⟩ := id h
  have HST0 := Lib.hid h
  have HV0 := Lib.hid (h.vars hv)
  have HF := Lib.hid (find_any v2 st x w ho2.inV (by omega))
  have hi2 := ho2.inV
  obtain ⟨a2, c2, rfl, hc2⟩ := hi2
  obtain ⟨a1, c1, rfl, hc1⟩ := id HV0.out
  have HC2 := Lib.hid hc2
  have HC1 := Lib.hid hc1
  have q0 : w.cell? ⟨w0.heap.size, 0, none⟩ = some (.slice a1 vars.length c1) := heap_cell hw2 0
  have q1 : w.cell? ⟨w0.heap.size, 1, none⟩ = some (.slice a2 st.length c2) := heap_cell hw2 1
  have HQ := Lib.hid (World.block_lt_of_cell? w _ q1)
  have HO2 := Lib.hid hw2
  have HSS := Lib.hid hS
  have HVV := Lib.hid hV
  have HNL := Lib.hid hvl
  clear hb0 hw2 ho2 hc1 hc2 h hS hV hvl hv
  cases hf : findV x st with
  | some s =>
    obtain ⟨k, hk, hs1, hs2, hput⟩ := findI_some x s st 0 hf
    clear hput
    replace hs2 : findI x st 0 = (k : Int) := by simpa using hs2
    rw [hs2] at HF
    have HSL : Hid (s.length ≤ 1000) := Lib.hid (by obtain ⟨v, h1, h2⟩ := findV_mem hf; rw [← h2]; exact HSS.out v h1)
    have HK : Hid (lookV vars st x = s) := Lib.hid (by unfold lookV; rw [hf])
    obtain ⟨b, off, rfl, hcc⟩ := HC2.out k hk
    have g1 := hcc 1 (by omega)
    have g1' : w.cell? ⟨b, off + k * 4 + 1, none⟩ = some (.string (B s)) := by rw [g1, ← hs1]; rfl
    have HG := Lib.hid g1'
    have hk1 : (k : Int) < st.length := by omega
    have hk0 : (0 : Int) ≤ k := by omega
    clear hcc g1 g1' hf hs2 hs1
    unfold ptr0
    go_enter Tryd.func24, Tryd.ntmps24
    go_wp2_with fail
    refine HF.out.mono ?_
    rintro e w1 ⟨rfl, hb1⟩
    have HST := Lib.hid (HST0.out.below hb1)
    have q1' : w1.cell? ⟨w0.heap.size, 1, none⟩ = some (.slice (some ⟨b, off, none⟩) st.length c2) := (hb1.cell (p := ⟨w0.heap.size, 1, none⟩) HQ.out).trans q1
    have g1' : w1.cell? ⟨b, off + k * 4 + 1, none⟩ = some (.string (B s)) := (hb1.cell (p := ⟨b, off + k * 4 + 1, none⟩) (World.block_lt_of_cell? w _ HG.out)).trans HG.out
    clear hb1 q0 q1
    by_cases hs0 : s = []
    · subst hs0
      have hb0 : ((B []).toList == []) = true := by rw [B_list]; rfl
      have HN : Hid (numV [] = some 0) := Lib.hid rfl
      go_wp2
      go_ret
      exact ⟨by rw [HK.out, HN.out]; rfl, HST.out⟩
    · have hb0 : ((B s).toList == []) = false := by rw [B_list]; simpa using hs0
      have HN := Lib.hid (numV_cut hs0)
      clear hs0
      cases hm : headIs [45] s with
      | true =>
        have HC := Lib.hid (cut_yes s hm w1)
        have HCO := Lib.hid (fun w => constant_any (s.drop 1) w (by have := HSL.out; rw [List.length_drop]; omega))
        rw [hm] at HN
        have HN2 : Hid (numV s = (constantS (s.drop 1)).map fun n => w64 (0 - n)) := Lib.hid HN.out
        clear hm HN
        generalize s.drop 1 = z at *
        go_wp2_with fail
        refine HC.out.mono ?_
        rintro e wa ⟨rfl, rfl⟩
        go_wp2_with fail
        refine (HCO.out _).mono ?_
        cases hk : constantS z with
        | none =>
          rw [hk] at HN2
          rintro e wb ⟨rfl, hb⟩
          have HST2 := Lib.hid (HST.out.below hb)
          clear hb hk
          unfold conV
          go_wp2
          exact ⟨rfl, by rw [HK.out, HN2.out]; rfl, HST2.out⟩
        | some n =>
          rw [hk] at HN2
          rintro e wb ⟨rfl, hb⟩
          have HST2 := Lib.hid (HST.out.below hb)
          clear hb hk
          unfold conV
          go_wp2
          go_ret
          exact ⟨by rw [HK.out, HN2.out]; exact neg_end n, HST2.out⟩
      | false =>
        have HC := Lib.hid (cut_no s hm w1)
        have HCO := Lib.hid (fun w => constant_any s w HSL.out)
        rw [hm] at HN
        have HN2 : Hid (numV s = constantS s) := Lib.hid HN.out
        clear hm HN
        go_wp2_with fail
        refine HC.out.mono ?_
        rintro e wa ⟨rfl, rfl⟩
        go_wp2_with fail
        refine (HCO.out _).mono ?_
        cases hk : constantS s with
        | none =>
          rw [hk] at HN2
          rintro e wb ⟨rfl, hb⟩
          have HST2 := Lib.hid (HST.out.below hb)
          clear hb hk
          unfold conV
          go_wp2
          exact ⟨rfl, by rw [HK.out, HN2.out]; rfl, HST2.out⟩
        | some n =>
          rw [hk] at HN2
          rintro e wb ⟨rfl, hb⟩
          have HST2 := Lib.hid (HST.out.below hb)
          clear hb hk
          unfold conV
          go_wp2
          go_ret
          exact ⟨by rw [HK.out, HN2.out]; rfl, HST2.out⟩
  | none =>
    have hs2 := findI_none x st 0 hf
    rw [hs2] at HF
    cases hf2 : findV x vars with
    | some s =>
      obtain ⟨k, hk, hs1, hs3, hput⟩ := findI_some x s vars 0 hf2
      clear hput
      replace hs3 : findI x vars 0 = (k : Int) := by simpa using hs3
      have HSL : Hid (s.length ≤ 1000) := Lib.hid (by obtain ⟨v, h1, h2⟩ := findV_mem hf2; rw [← h2]; exact HVV.out v h1)
      have HK : Hid (lookV vars st x = s) := Lib.hid (by unfold lookV; rw [hf, hf2]; rfl)
      obtain ⟨b, off, rfl, hcc⟩ := HC1.out k hk
      have g1 := hcc 1 (by omega)
      have g1' : w.cell? ⟨b, off + k * 4 + 1, none⟩ = some (.string (B s)) := by rw [g1, ← hs1]; rfl
      have HG := Lib.hid g1'
      have hk1 : (k : Int) < vars.length := by omega
      have hk0 : (0 : Int) ≤ k := by omega
      have HI := Lib.hid hs3
      clear hcc g1 g1' hf hs2 hs1 hs3 hf2
      unfold ptr0
      go_enter Tryd.func24, Tryd.ntmps24
      go_wp2_with fail
      refine HF.out.mono ?_
      rintro e w1 ⟨rfl, hb1⟩
      have HST1 := Lib.hid (HST0.out.below hb1)
      have HF2 := Lib.hid (find_any _ vars x w1 (HV0.out.below hb1) HNL.out)
      rw [HI.out] at HF2
      have q0' : w1.cell? ⟨w0.heap.size, 0, none⟩ = some (.slice (some ⟨b, off, none⟩) vars.length c1) := (hb1.cell (p := ⟨w0.heap.size, 0, none⟩) HQ.out).trans q0
      have HB1 := Lib.hid hb1
      clear hb1 q0 q1
      go_wp2_with fail
      refine HF2.out.mono ?_
      rintro e w2 ⟨rfl, hb2⟩
      have HST := Lib.hid (HST1.out.below hb2)
      have q0'' : w2.cell? ⟨w0.heap.size, 0, none⟩ = some (.slice (some ⟨b, off, none⟩) vars.length c1) := (hb2.cell (p := ⟨w0.heap.size, 0, none⟩) (World.block_lt_of_cell? w1 _ q0')).trans q0'
      have g1' : w1.cell? ⟨b, off + k * 4 + 1, none⟩ = some (.string (B s)) := (HB1.out.cell (p := ⟨b, off + k * 4 + 1, none⟩) (World.block_lt_of_cell? w _ HG.out)).trans HG.out
      have g2' : w2.cell? ⟨b, off + k * 4 + 1, none⟩ = some (.string (B s)) := (hb2.cell (p := ⟨b, off + k * 4 + 1, none⟩) (World.block_lt_of_cell? w1 _ g1')).trans g1'
      clear hb2 q0' g1'
      by_cases hs0 : s = []
      · subst hs0
        have hb0 : ((B []).toList == []) = true := by rw [B_list]; rfl
        have HN : Hid (numV [] = some 0) := Lib.hid rfl
        go_wp2
        go_ret
        exact ⟨by rw [HK.out, HN.out]; rfl, HST.out⟩
      · have hb0 : ((B s).toList == []) = false := by rw [B_list]; simpa using hs0
        have HN := Lib.hid (numV_cut hs0)
        clear hs0
        cases hm : headIs [45] s with
        | true =>
          have HC := Lib.hid (cut_yes s hm w2)
          have HCO := Lib.hid (fun w => constant_any (s.drop 1) w (by have := HSL.out; rw [List.length_drop]; omega))
          rw [hm] at HN
          have HN2 : Hid (numV s = (constantS (s.drop 1)).map fun n => w64 (0 - n)) := Lib.hid HN.out
          clear hm HN
          generalize s.drop 1 = z at *
          go_wp2_with fail
          refine HC.out.mono ?_
          rintro e wa ⟨rfl, rfl⟩
          go_wp2_with fail
          refine (HCO.out _).mono ?_
          cases hk : constantS z with
          | none =>
            rw [hk] at HN2
            rintro e wb ⟨rfl, hb⟩
            have HST2 := Lib.hid (HST.out.below hb)
            clear hb hk
            unfold conV
            go_wp2
            exact ⟨rfl, by rw [HK.out, HN2.out]; rfl, HST2.out⟩
          | some n =>
            rw [hk] at HN2
            rintro e wb ⟨rfl, hb⟩
            have HST2 := Lib.hid (HST.out.below hb)
            clear hb hk
            unfold conV
            go_wp2
            go_ret
            exact ⟨by rw [HK.out, HN2.out]; exact neg_end n, HST2.out⟩
        | false =>
          have HC := Lib.hid (cut_no s hm w2)
          have HCO := Lib.hid (fun w => constant_any s w HSL.out)
          rw [hm] at HN
          have HN2 : Hid (numV s = constantS s) := Lib.hid HN.out
          clear hm HN
          go_wp2_with fail
          refine HC.out.mono ?_
          rintro e wa ⟨rfl, rfl⟩
          go_wp2_with fail
          refine (HCO.out _).mono ?_
          cases hk : constantS s with
          | none =>
            rw [hk] at HN2
            rintro e wb ⟨rfl, hb⟩
            have HST2 := Lib.hid (HST.out.below hb)
            clear hb hk
            unfold conV
            go_wp2
            exact ⟨rfl, by rw [HK.out, HN2.out]; rfl, HST2.out⟩
          | some n =>
            rw [hk] at HN2
            rintro e wb ⟨rfl, hb⟩
            have HST2 := Lib.hid (HST.out.below hb)
            clear hb hk
            unfold conV
            go_wp2
            go_ret
            exact ⟨by rw [HK.out, HN2.out]; rfl, HST2.out⟩
    | none =>
      have hs3 := findI_none x vars 0 hf2
      have HK : Hid (lookV vars st x = []) := Lib.hid (by unfold lookV; rw [hf, hf2]; rfl)
      have HI := Lib.hid hs3
      clear hf hs2 hs3 hf2
      unfold ptr0
      go_enter Tryd.func24, Tryd.ntmps24
      go_wp2_with fail
      refine HF.out.mono ?_
      rintro e w1 ⟨rfl, hb1⟩
      have HST1 := Lib.hid (HST0.out.below hb1)
      have HF2 := Lib.hid (find_any _ vars x w1 (HV0.out.below hb1) HNL.out)
      rw [HI.out] at HF2
      have q0' : w1.cell? ⟨w0.heap.size, 0, none⟩ = some (.slice a1 vars.length c1) := (hb1.cell (p := ⟨w0.heap.size, 0, none⟩) HQ.out).trans q0
      clear hb1 q0 q1
      go_wp2_with fail
      refine HF2.out.mono ?_
      rintro e w2 ⟨rfl, hb2⟩
      have HST := Lib.hid (HST1.out.below hb2)
      clear hb2 q0'
      have HN : Hid (numV [] = some 0) := Lib.hid rfl
      go_wp2
      go_ret
      exact ⟨by rw [HK.out, HN.out]; rfl, HST.out⟩
end Go.Proofs.YtpjjdaenckedbaaDoor
