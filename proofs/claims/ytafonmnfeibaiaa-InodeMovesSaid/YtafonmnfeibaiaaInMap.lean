/- What the operations on a map of names do, over any program. -/
import Derived.Test.YtafonmnfeibaiaaInRep
namespace Go.Proofs.Ytafonmnfeibaiaa
open Go.RowKit

def look (l : List (ByteArray × Nat)) (s : ByteArray) : Option Nat := (l.find? (fun p => decide (p.1 = s))).map (·.2)
def delL (l : List (ByteArray × Nat)) (s : ByteArray) : List (ByteArray × Nat) := l.eraseP (fun p => decide (p.1 = s))
/-- Names that stand once each: what is left is what has another name. -/
theorem delL_filter (s : ByteArray) : ∀ {l : List (ByteArray × Nat)}, (l.map (·.1)).Nodup → delL l s = l.filter fun p => !decide (p.1 = s)
  | [], _ => rfl
  | p :: l, h => by
    rw [List.map_cons, List.nodup_cons] at h
    by_cases hc : p.1 = s
    · have e : l.filter (fun p => !decide (p.1 = s)) = l := by
        rw [List.filter_eq_self]
        intro q hq
        have : q.1 ≠ s := fun e => h.1 (by rw [hc, ← e]; exact List.mem_map.2 ⟨q, hq, rfl⟩)
        simpa using this
      simp only [delL, List.eraseP_cons, hc, List.filter_cons, decide_true, Bool.not_true, Bool.false_eq_true, if_false, cond_true]
      exact e.symm
    · have := delL_filter s h.2
      simp only [delL] at this
      simp only [delL, List.eraseP_cons, List.filter_cons, hc, decide_false, Bool.not_false, cond_false, if_true]
      rw [this]
theorem set_perm {α : Type} (a : α) : ∀ (l : List α) (j : Nat), j < l.length → (l.set j a).Perm (a :: l.eraseIdx j)
  | [], _, h => absurd h (by simp)
  | _ :: l, 0, _ => List.Perm.refl _
  | b :: l, j + 1, h => ((set_perm a l j (by simpa using h)).cons b).trans (List.Perm.swap _ _ _)

theorem ba_beq (a b : ByteArray) : (a == b) = decide (a = b) := by
  rw [Bool.eq_iff_iff]
  simp only [decide_eq_true_eq]
  constructor
  · intro h
    have h' : (a.data == b.data) = true := h
    have h2 : a.data = b.data := by simpa using h'
    exact ByteArray.ext h2
  · rintro rfl
    show (a.data == a.data) = true
    simp
theorem findNow_nil_of (s : ByteArray) : ∀ (es : List MapEntry) (l : List (ByteArray × Nat)) (i : Nat), es.map (fun e => (e.key, e.val)) = entVals l → look l s = none → Instr.findNow .string (.string s) es i = some none
  | [], _, _, _, _ => rfl
  | e :: es, [], _, h, _ => by simp [entVals] at h
  | e :: es, p :: l, i, h, hn => by
    simp only [entVals, List.map_cons, List.cons.injEq, Prod.mk.injEq] at h
    obtain ⟨⟨hk, hv⟩, ht⟩ := h
    by_cases hc : p.1 = s
    · simp [look, List.find?_cons, hc] at hn
    · have hn' : look l s = none := by simpa [look, List.find?_cons, hc] using hn
      simp only [Instr.findNow, Instr.sameNow, hk, ba_beq, decide_eq_false (fun h => hc (Eq.symm h))]
      exact findNow_nil_of s es l (i + 1) ht hn'
theorem findNow_some_of (s : ByteArray) (x : Nat) : ∀ (es : List MapEntry) (l : List (ByteArray × Nat)) (i : Nat), es.map (fun e => (e.key, e.val)) = entVals l → look l s = some x →
    ∃ j, Instr.findNow .string (.string s) es i = some (some (i + j, .int .i64 (x : Int))) ∧ j < es.length ∧ l.eraseIdx j = delL l s ∧ (l[j]?).map (·.1) = some s
  | [], [], _, _, hn => by simp [look] at hn
  | [], _ :: _, _, h, _ => by simp [entVals] at h
  | e :: es, [], _, h, _ => by simp [entVals] at h
  | e :: es, p :: l, i, h, hn => by
    simp only [entVals, List.map_cons, List.cons.injEq, Prod.mk.injEq] at h
    obtain ⟨⟨hk, hv⟩, ht⟩ := h
    by_cases hc : p.1 = s
    · have hx : p.2 = x := by simpa [look, List.find?_cons, hc] using hn
      refine ⟨0, ?_, by simp, by simp [delL, List.eraseP_cons, hc], by simp [hc]⟩
      simp [Instr.findNow, Instr.sameNow, hk, hv, hc, hx, ba_beq]
    · have hn' : look l s = some x := by simpa [look, List.find?_cons, hc] using hn
      obtain ⟨j, h1, h2, h3, h4⟩ := findNow_some_of s x es l (i + 1) ht hn'
      refine ⟨j + 1, ?_, by simp; omega, by simp [delL, List.eraseP_cons, hc] at h3 ⊢; exact h3, by simpa using h4⟩
      simp only [Instr.findNow, Instr.sameNow, hk, ba_beq, decide_eq_false (fun h => hc (Eq.symm h))]
      rw [h1, Nat.add_right_comm, Nat.add_assoc]

theorem map_eraseIdx' {α β : Type} (f : α → β) : ∀ (l : List α) (j : Nat), (l.eraseIdx j).map f = (l.map f).eraseIdx j
  | [], _ => rfl
  | _ :: _, 0 => rfl
  | a :: l, j + 1 => by simp [map_eraseIdx' f l j]

theorem check_string {P : Program} {w : World} {K : TypeId} (hK : P.underlying K = some .string) (b : Bool) (s : ByteArray) : (Instr.checkKey b 10000 K (.string s)).run P w = .ok () w := by
  have h : ∀ d : Nat, (Instr.checkKey b (d + 1) K (.string s)).run P w = .ok () w := fun d => by
    simp [Instr.checkKey, run_underlying hK]
  exact h 9999

section
variable {P : Program} {w : World} {T K E : TypeId} {m : Nat} {l : List (ByteArray × Nat)} (hT : P.underlying T = some (.map K E)) (hK : P.underlying K = some .string)
include hT hK
theorem run_lookup_none (h : MapIs w m l) (s : ByteArray) (hs : look l s = none) (hz : (zeroValue E).run P w = .ok (.int .i64 0) w) :
    (Instr.lookup T (.map (some m)) (.string s) true).run P w = .ok (.tuple #[.int .i64 0, .bool false]) w := by
  obtain ⟨es, c, h1, h2⟩ := h
  have hf := findNow_nil_of s es.toList l 0 h2.vals hs
  simp [Instr.lookup, run_underlying hT, MapKept.run_getObj_map h1, check_string hK, Instr.findKey, run_underlying hK, hf, hz, Result.andThen]
theorem run_lookup_some (h : MapIs w m l) (s : ByteArray) (x : Nat) (hs : look l s = some x) :
    (Instr.lookup T (.map (some m)) (.string s) true).run P w = .ok (.tuple #[.int .i64 (x : Int), .bool true]) w := by
  obtain ⟨es, c, h1, h2⟩ := h
  obtain ⟨j, hf, _⟩ := findNow_some_of s x es.toList l 0 h2.vals hs
  simp [Instr.lookup, run_underlying hT, MapKept.run_getObj_map h1, check_string hK, Instr.findKey, run_underlying hK, hf, Result.andThen]
theorem run_update_new (h : MapIs w m l) (s : ByteArray) (x : Nat) (hs : look l s = none) :
    ∃ es clock, (Instr.mapUpdate T (.map (some m)) (.string s) (.int .i64 (x : Int))).run P w = .ok () (w.putObj m (.map es clock)) ∧ MapOk es clock (l ++ [(s, x)]) := by
  obtain ⟨es, c, h1, h2⟩ := h
  have hf := findNow_nil_of s es.toList l 0 h2.vals hs
  refine ⟨es.push ⟨.string s, .int .i64 (x : Int), c⟩, c + 1, ?_, ?_, ?_, ?_, ?_⟩
  · simp [Instr.mapUpdate, run_underlying hT, MapKept.run_getObj_map h1, check_string hK, Instr.findKey, run_underlying hK, hf, Result.andThen, MapKept.run_setObj_map _ h1, World.putObj]
  · simp [entVals, h2.vals]
  · rw [List.map_append, List.nodup_append]
    refine ⟨h2.keys, by simp, ?_⟩
    intro a ha b hb
    simp at hb
    subst hb
    intro e
    obtain ⟨p, hp, hp2⟩ := List.mem_map.1 ha
    simp only [look, Option.map_eq_none_iff, List.find?_eq_none] at hs
    exact hs p hp (by rw [hp2, e]; simp)
  · intro e he
    simp at he
    rcases he with he | rfl
    · have := h2.born e (by simpa using he); omega
    · simp
  · simp only [Array.toList_push, List.map_append, List.map_cons, List.map_nil]
    rw [List.nodup_append]
    refine ⟨h2.apart, by simp, ?_⟩
    intro a ha b hb
    simp at hb
    obtain ⟨p, hp, hp2⟩ := List.mem_map.1 ha
    have := h2.born p hp
    omega
theorem run_update_old (h : MapIs w m l) (s : ByteArray) (x y : Nat) (hs : look l s = some y) :
    ∃ es clock l', (Instr.mapUpdate T (.map (some m)) (.string s) (.int .i64 (x : Int))).run P w = .ok () (w.putObj m (.map es clock)) ∧ MapOk es clock l' ∧ l'.Perm ((s, x) :: delL l s) := by
  obtain ⟨es, c, h1, h2⟩ := h
  obtain ⟨j, hf, hj, hd, hkj⟩ := findNow_some_of s y es.toList l 0 h2.vals hs
  have hjs : j < es.size := by simpa using hj
  have hlen : l.length = es.size := by have := congrArg List.length h2.vals; simpa [entVals] using this.symm
  have hjl : j < l.length := by omega
  have hkey : es[j].key = .string s := by
    have e1 := congrArg (fun L => L[j]?) h2.vals
    simp only [entVals, List.getElem?_map] at e1
    have e2 : l[j]? = some l[j] := List.getElem?_eq_getElem hjl
    have e3 : es.toList[j]? = some es[j] := by rw [List.getElem?_eq_getElem hj]; rfl
    rw [e2, e3] at e1
    rw [e2] at hkj
    simp only [Option.map_some, Option.some.injEq, Prod.mk.injEq] at e1 hkj
    rw [e1.1, hkj]
  have hst : (Instr.keyThatStays (((es[0 + j]?).map (·.key)).getD (.string s)) (.string s)).run P w = .ok (.string s) w := by
    rw [Nat.zero_add, Array.getElem?_eq_getElem hjs]
    simp only [Option.map_some, Option.getD_some, hkey]
    simp [Instr.keyThatStays, Instr.sameBits, ba_beq]
  rw [Nat.zero_add] at hst
  refine ⟨es.modify j fun e => { e with key := .string s, val := .int .i64 (x : Int) }, c, l.set j (s, x), ?_, ⟨?_, ?_, ?_, ?_⟩, ?_⟩
  · simp [Instr.mapUpdate, run_underlying hT, MapKept.run_getObj_map h1, check_string hK, Instr.findKey, run_underlying hK, hf, Result.andThen, hst, MapKept.run_setObj_map _ h1, World.putObj]
  · apply List.ext_getElem?
    intro i
    have e1 := congrArg (fun L => L[i]?) h2.vals
    simp only [entVals, List.getElem?_map, Array.toList_modify, List.getElem?_modify, List.getElem?_set] at e1 ⊢
    by_cases hi : j = i
    · subst hi
      have e3 : es.toList[j]? = some es[j] := by rw [List.getElem?_eq_getElem hj]; rfl
      simp [e3, hjl]
    · simp only [hi, if_false]
      rw [← e1]
      cases es.toList[i]? <;> simp
  · have : (l.set j (s, x)).map (·.1) = l.map (·.1) := by
      apply List.ext_getElem?
      intro i
      simp only [List.getElem?_map, List.getElem?_set]
      by_cases hi : j = i
      · subst hi
        simp only [if_pos, hjl]
        exact hkj.symm
      · simp [hi]
    rw [this]; exact h2.keys
  · intro e he
    rw [Array.toList_modify] at he
    obtain ⟨i, hi, rfl⟩ := List.getElem_of_mem he
    rw [List.getElem_modify]
    have hi2 : i < es.toList.length := by simpa using hi
    by_cases e : j = i
    · rw [if_pos e]; exact (show es.toList[i].born < c from h2.born _ (List.getElem_mem hi2))
    · rw [if_neg e]; exact h2.born _ (List.getElem_mem hi2)
  · have : (es.modify j fun e => { e with key := .string s, val := .int .i64 (x : Int) }).toList.map (·.born) = es.toList.map (·.born) := by
      apply List.ext_getElem?
      intro i
      simp only [List.getElem?_map, Array.toList_modify, List.getElem?_modify]
      by_cases hi : j = i
      · subst hi; cases es.toList[j]? <;> simp
      · simp [hi]
    rw [this]; exact h2.apart
  · rw [← hd]; exact set_perm _ l j hjl
theorem run_delete_some (h : MapIs w m l) (s : ByteArray) (x : Nat) (hs : look l s = some x) (ty : TypeId) :
    ∃ es clock, (Builtin.delete_ #[T, K] ty #[.map (some m), .string s]).run P w = .ok (.tuple #[]) (w.putObj m (.map es clock)) ∧ MapOk es clock (delL l s) := by
  obtain ⟨es, c, h1, h2⟩ := h
  obtain ⟨j, hf, hj, hd, _⟩ := findNow_some_of s x es.toList l 0 h2.vals hs
  have hes : (es.eraseIdxIfInBounds j).toList = es.toList.eraseIdx j := by
    have : j < es.size := by simpa using hj
    simp [Array.eraseIdxIfInBounds, this]
  refine ⟨es.eraseIdxIfInBounds j, c, ?_, ?_, ?_, ?_, ?_⟩
  · simp [Builtin.delete_, run_underlying hT, MapKept.run_getObj_map h1, check_string hK, Instr.findKey, run_underlying hK, hf, Result.andThen, MapKept.run_setObj_map _ h1, World.putObj]
  · rw [hes, ← hd]
    have := h2.vals
    simp only [entVals] at this ⊢
    rw [map_eraseIdx', map_eraseIdx', this]
  · rw [← hd]
    exact List.Nodup.sublist ((List.eraseIdx_sublist l j).map _) h2.keys
  · intro e he
    rw [hes] at he
    exact h2.born e ((List.eraseIdx_sublist _ j).subset he)
  · rw [hes]
    exact List.Nodup.sublist ((List.eraseIdx_sublist _ j).map _) h2.apart
omit hT hK in
theorem run_next_empty {r since c0 c : Nat} (ty : TypeId) (hi : w.heap[r]? = some (.mapIter (some m) since #[] c0)) (hb : w.heap[m]? = some (.map #[] c)) :
    (Instr.next (.pointer (some ⟨r, 0, none⟩)) false ty).run P w = .ok (.tuple #[.bool false]) w := by
  simp [Instr.next, getObj, Sem.run, hi, hb, Result.andThen, choose, Question.forced]
end
end Go.Proofs.Ytafonmnfeibaiaa
