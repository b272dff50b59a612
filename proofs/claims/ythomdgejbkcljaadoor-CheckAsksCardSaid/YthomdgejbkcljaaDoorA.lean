/- Small functions of Check: truth, not, Compare; a map of three truths. -/
import Derived.Test.YthomdgejbkcljaaDoorProg
import Derived.Test.YthomdgejbkcljaaDoorPlain
import Derived.WalkKit
import Derived.ProofKit
import Derived.Carry
import Derived.Deep.CutRange
import Derived.MapKept
import Derived.Below
namespace Go.Proofs.YthomdgejbkcljaaDoor
open Go.RowKit

theorem truth_any (b : Bool) (w : World) : Calls Tryd.prog 21 #[.bool b] w fun e w' => e = .returned (.int .i64 (truthN b : Nat)) ∧ w' = w := by
  cases b
  · go_enter Tryd.func21, Tryd.ntmps21
    go_wp2
    go_ret
    exact ⟨rfl, rfl⟩
  · go_enter Tryd.func21, Tryd.ntmps21
    go_wp2
    go_ret
    exact ⟨rfl, rfl⟩
def notN (n : Nat) : Nat := if n = 2 then 2 else 1 - n
theorem not_any (n : Nat) (hn : n ≤ 2) (w : World) : Calls Tryd.prog 22 #[.int .i64 n] w fun e w' => e = .returned (.int .i64 (notN n : Nat)) ∧ w' = w := by
  obtain rfl | rfl | rfl : n = 0 ∨ n = 1 ∨ n = 2 := by omega
  all_goals
    go_enter Tryd.func22, Tryd.ntmps22
    go_wp2
    go_ret
    exact ⟨rfl, rfl⟩
def cmpN (a b : Int) : Nat := if a < b then 0 else if a = b then 1 else 2
theorem cmp_any (a b : Int) (w : World) : Calls Tryd.prog 27 #[.int .i64 a, .int .i64 b] w fun e w' => e = .returned (.int .i64 ((cmpN a b : Nat) - 1 : Int)) ∧ w' = w := by
  unfold cmpN
  by_cases h : a < b
  · rw [if_pos h]
    go_enter Tryd.func27, Tryd.ntmps27
    go_wp2
    go_ret
    exact ⟨rfl, rfl⟩
  · rw [if_neg h]
    by_cases h2 : a = b
    · subst h2
      rw [if_pos rfl]
      go_enter Tryd.func27, Tryd.ntmps27
      go_wp2
      go_ret
      exact ⟨rfl, rfl⟩
    · rw [if_neg h2]
      have h3 : b < a := by omega
      go_enter Tryd.func27, Tryd.ntmps27
      go_wp2
      go_ret
      exact ⟨rfl, rfl⟩
theorem ba_beq (a b : ByteArray) : (a == b) = decide (a = b) := by
  rw [Bool.eq_iff_iff]
  simp only [decide_eq_true_eq]
  constructor
  · intro h
    have h' : (a.data == b.data) = true := h
    have h2 : a.data = b.data := by simpa using h'
    exact ByteArray.ext h2
  · rintro rfl
    show (a.data == a.data) = true
    simp
def look (l : List (ByteArray × Value)) (s : ByteArray) : Option Value := (l.find? (fun p => decide (p.1 = s))).map (·.2)
def entVals (l : List (ByteArray × Value)) : List (Value × Value) := l.map fun p => (.string p.1, p.2)
theorem findNow_none (s : ByteArray) : ∀ (es : List MapEntry) (l : List (ByteArray × Value)) (i : Nat), es.map (fun e => (e.key, e.val)) = entVals l → look l s = none → Instr.findNow .string (.string s) es i = some none
  | [], _, _, _, _ => rfl
  | e :: es, [], _, h, _ => by simp [entVals] at h
  | e :: es, p :: l, i, h, hn => by
    simp only [entVals, List.map_cons, List.cons.injEq, Prod.mk.injEq] at h
    obtain ⟨⟨hk, hv⟩, ht⟩ := h
    by_cases hc : p.1 = s
    · simp [look, List.find?_cons, hc] at hn
    · have hn' : look l s = none := by simpa [look, List.find?_cons, hc] using hn
      simp only [Instr.findNow, Instr.sameNow, hk, ba_beq, decide_eq_false (fun h => hc (Eq.symm h))]
      exact findNow_none s es l (i + 1) ht hn'
theorem findNow_some (s : ByteArray) (x : Value) : ∀ (es : List MapEntry) (l : List (ByteArray × Value)) (i : Nat), es.map (fun e => (e.key, e.val)) = entVals l → look l s = some x →
    ∃ j, Instr.findNow .string (.string s) es i = some (some (j, x))
  | [], [], _, _, hn => by simp [look] at hn
  | [], _ :: _, _, h, _ => by simp [entVals] at h
  | e :: es, [], _, h, _ => by simp [entVals] at h
  | e :: es, p :: l, i, h, hn => by
    simp only [entVals, List.map_cons, List.cons.injEq, Prod.mk.injEq] at h
    obtain ⟨⟨hk, hv⟩, ht⟩ := h
    by_cases hc : p.1 = s
    · have hx : p.2 = x := by simpa [look, List.find?_cons, hc] using hn
      refine ⟨i, ?_⟩
      simp [Instr.findNow, Instr.sameNow, hk, hv, hc, hx, ba_beq]
    · have hn' : look l s = some x := by simpa [look, List.find?_cons, hc] using hn
      obtain ⟨j, h1⟩ := findNow_some s x es l (i + 1) ht hn'
      refine ⟨j, ?_⟩
      simp only [Instr.findNow, Instr.sameNow, hk, ba_beq, decide_eq_false (fun h => hc (Eq.symm h))]
      rw [h1]
theorem check_string {P : Program} {w : World} {K : TypeId} (hK : P.underlying K = some .string) (b : Bool) (s : ByteArray) : (Instr.checkKey b 10000 K (.string s)).run P w = .ok () w := by
  have h : ∀ d : Nat, (Instr.checkKey b (d + 1) K (.string s)).run P w = .ok () w := fun d => by
    simp [Instr.checkKey, run_underlying hK]
  exact h 9999
/-- A world in which a block is another one. -/
def putM (w : World) (m : Nat) (o : Obj) : World := { w with heap := w.heap.setIfInBounds m o }
theorem putM_at {w : World} {m : Nat} {o o' : Obj} (h : w.heap[m]? = some o') : (putM w m o).heap[m]? = some o := by
  have := (Array.getElem?_eq_some_iff.1 h).1
  simp [putM, this]
theorem putM_below {n : Nat} {w W : World} {m : Nat} {o : Obj} (h : Below n w W) (hm : n ≤ m) : Below n w (putM W m o) where
  os := h.os
  tape := h.tape
  output := h.output
  size := by simpa [putM] using h.size
  block := fun k hk => by
    rw [← h.block k hk]
    show (W.heap.setIfInBounds m o)[k]? = W.heap[k]?
    rw [Array.getElem?_setIfInBounds_ne (by omega)]
def MapV (w : World) (m : Nat) (l : List (ByteArray × Value)) : Prop := ∃ es c, w.heap[m]? = some (.map es c) ∧ es.toList.map (fun e => (e.key, e.val)) = entVals l
theorem map_put {w : World} {m : Nat} {l : List (ByteArray × Value)} (h : MapV w m l) (s : ByteArray) (x : Value) (hs : look l s = none) :
    ∃ W, (Instr.mapUpdate 58 (.map (some m)) (.string s) x).run Tryd.prog w = .ok () W ∧ MapV W m (l ++ [(s, x)]) ∧ ∀ n w0, Below n w0 w → n ≤ m → Below n w0 W := by
  obtain ⟨es, c, h1, h2⟩ := h
  have hf := findNow_none s es.toList l 0 h2 hs
  refine ⟨putM w m (.map (es.push ⟨.string s, x, c⟩) (c + 1)), ?_, ⟨_, _, putM_at h1, ?_⟩, fun n w0 hb hm => putM_below hb hm⟩
  · simp [Instr.mapUpdate, run_underlying Tryd.underlying58, MapKept.run_getObj_map h1, check_string Tryd.underlying9, Instr.findKey, run_underlying Tryd.underlying9, hf, Result.andThen, MapKept.run_setObj_map _ h1, putM]
  · simp [entVals, h2]
abbrev tv (a b c : Bool) : Value := .agg #[.bool a, .bool b, .bool c]
def triL : List (ByteArray × Value) := [(b3 45 101 113, tv false true false), (b3 45 110 101, tv true false true), (b3 45 108 116, tv true false false), (b3 45 108 101, tv true true false), (b3 45 103 116, tv false false true), (b3 45 103 101, tv false true true)]
theorem map_get {w : World} {m : Nat} (h : MapV w m triL) (s : ByteArray) : (Instr.lookup 58 (.map (some m)) (.string s) true).run Tryd.prog w =
    .ok (match tri s with | some t => .tuple #[tv t.1 t.2.1 t.2.2, .bool true] | none => .tuple #[tv false false false, .bool false]) w := by
  obtain ⟨es, c, h1, h2⟩ := h
  have hz : (zeroValue 56).run Tryd.prog w = .ok (tv false false false) w := by kernel_rfl
  have key : ∀ (o : Option (Bool × Bool × Bool)), tri s = o → look triL s = o.map (fun t => tv t.1 t.2.1 t.2.2) := fun o ho => by
    subst ho
    unfold tri look triL
    by_cases k1 : s = b3 45 101 113
    · subst k1; simp
    by_cases k2 : s = b3 45 110 101
    · subst k2; rfl
    by_cases k3 : s = b3 45 108 116
    · subst k3; rfl
    by_cases k4 : s = b3 45 108 101
    · subst k4; rfl
    by_cases k5 : s = b3 45 103 116
    · subst k5; rfl
    by_cases k6 : s = b3 45 103 101
    · subst k6; rfl
    simp [List.find?_cons, k1, k2, k3, k4, k5, k6, Ne.symm k1, Ne.symm k2, Ne.symm k3, Ne.symm k4, Ne.symm k5, Ne.symm k6]
  cases ht : tri s with
  | none =>
    have hf := findNow_none s es.toList triL 0 h2 (by rw [key _ ht]; rfl)
    simp [Instr.lookup, run_underlying Tryd.underlying58, MapKept.run_getObj_map h1, check_string Tryd.underlying9, Instr.findKey, run_underlying Tryd.underlying9, hf, hz, Result.andThen]
  | some t =>
    obtain ⟨j, hf⟩ := findNow_some s _ es.toList triL 0 h2 (by rw [key _ ht]; rfl)
    simp [Instr.lookup, run_underlying Tryd.underlying58, MapKept.run_getObj_map h1, check_string Tryd.underlying9, Instr.findKey, run_underlying Tryd.underlying9, hf, Result.andThen]
end Go.Proofs.YthomdgejbkcljaaDoor
