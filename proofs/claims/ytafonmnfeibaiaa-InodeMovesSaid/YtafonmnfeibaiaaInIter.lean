/- Ranging over a map of names whose rounds write other blocks, over any program: what is still to come. -/
import Derived.Test.YtafonmnfeibaiaaInMap
import Derived.Maps.Range
namespace Go.Proofs.Ytafonmnfeibaiaa
open Go.RowKit Go.ChangeMaps

/-- Block r is an iterator over the map at m, whose entries are l; todo is still to come. -/
def Iter (w : World) (r m : Nat) (l todo : List (ByteArray × Nat)) : Prop :=
  ∃ es clock since seen c0, w.heap[m]? = some (.map es clock) ∧ MapOk es clock l ∧ w.heap[r]? = some (.mapIter (some m) since seen c0) ∧ (∀ x ∈ es.toList, x.born < since) ∧ since ≤ c0 ∧ since ≤ clock ∧ (leftOf es seen).toList.map (fun e => (e.key, e.val)) = entVals todo

theorem Iter.left_eq {w : World} {r m : Nat} {l todo} (h : Iter w r m l todo) : w.rangeLeft m r = todo.length := by
  obtain ⟨es, clock, since, seen, c0, hm, _, hr, _, _, _, ht⟩ := h
  simp only [World.rangeLeft, hm, hr]
  have := congrArg List.length ht
  simpa [entVals] using this
theorem Iter.same {w w' : World} {r m : Nat} {l todo} (h : Iter w r m l todo) (h1 : w'.heap[m]? = w.heap[m]?) (h2 : w'.heap[r]? = w.heap[r]?) : Iter w' r m l todo := by
  obtain ⟨es, clock, since, seen, c0, hm, ho, hr, rest⟩ := h
  exact ⟨es, clock, since, seen, c0, h1.trans hm, ho, h2.trans hr, rest⟩
theorem Iter.lt {w : World} {r m : Nat} {l todo} (h : Iter w r m l todo) : m < w.heap.size ∧ r < w.heap.size := by
  obtain ⟨es, clock, since, seen, c0, hm, _, hr, _⟩ := h
  exact ⟨lt_of_heap hm, lt_of_heap hr⟩
theorem iter_start {w : World} {m : Nat} {l} (h : MapIs w m l) : ∃ es clock, w.heap[m]? = some (.map es clock) ∧ MapOk es clock l ∧ Iter (w.alloc (.mapIter (some m) clock #[] clock)) w.heap.size m l l := by
  obtain ⟨es, clock, hm, ho⟩ := h
  refine ⟨es, clock, hm, ho, es, clock, clock, #[], clock, ?_, ho, alloc_heap _ _, ho.born, Nat.le_refl _, Nat.le_refl _, ?_⟩
  · rw [alloc_heap_old _ _ (lt_of_heap hm)]; exact hm
  · have : leftOf es #[] = es := by unfold leftOf; simp
    rw [this]; exact ho.vals
theorem left_push (es : Array MapEntry) (seen : Array Nat) (b : Nat) : (leftOf es (seen.push b)).toList = (leftOf es seen).toList.filter fun e => !(e.born == b) := by
  unfold leftOf
  rw [Array.toList_filter, Array.toList_filter, List.filter_filter]
  congr 1
  funext e
  rw [contains_push, Bool.not_or, Bool.and_comm]
theorem perm_born {e : MapEntry} : ∀ {L : List MapEntry}, (L.map (·.born)).Nodup → e ∈ L → L.Perm (e :: L.filter fun x => !(x.born == e.born))
  | [], _, h => by cases h
  | x :: L, hn, h => by
    rw [List.map_cons, List.nodup_cons] at hn
    by_cases hx : x.born = e.born
    · have e1 : x = e := by
        rcases List.mem_cons.1 h with e1 | h2
        · exact e1.symm
        · exact absurd (List.mem_map.2 ⟨e, h2, hx.symm⟩) hn.1
      subst e1
      have e2 : L.filter (fun y => !(y.born == x.born)) = L := by
        rw [List.filter_eq_self]
        intro y hy
        have : y.born ≠ x.born := fun e3 => hn.1 (List.mem_map.2 ⟨y, hy, e3⟩)
        simpa using this
      rw [List.filter_cons]
      simp only [beq_self_eq_true, Bool.not_true, Bool.false_eq_true, if_false]
      rw [e2]
    · have h2 : e ∈ L := (List.mem_cons.1 h).resolve_left fun e1 => hx (by rw [e1])
      have ih := perm_born hn.2 h2
      have hx2 : (x.born == e.born) = false := by simpa using hx
      rw [List.filter_cons]
      simp only [hx2, Bool.not_false, if_true]
      exact (ih.cons x).trans (List.Perm.swap _ _ _)
theorem entVals_mem {v : Value × Value} : ∀ {l : List (ByteArray × Nat)}, v ∈ entVals l → ∃ p ∈ l, v = (.string p.1, .int .i64 (p.2 : Int)) := fun {l} h => by
  obtain ⟨p, hp, rfl⟩ := List.mem_map.1 h
  exact ⟨p, hp, rfl⟩
/-- A row of values that is a part of some entries, is some entries. -/
theorem entVals_of {es : List MapEntry} {l : List (ByteArray × Nat)} (h : ∀ e ∈ es, ∃ p : ByteArray × Nat, (e.key, e.val) = (.string p.1, .int .i64 (p.2 : Int))) : ∃ l, es.map (fun e => (e.key, e.val)) = entVals l := by
  induction es with
  | nil => exact ⟨[], rfl⟩
  | cons e es ih =>
    obtain ⟨l1, h1⟩ := ih fun x hx => h x (List.mem_cons_of_mem _ hx)
    obtain ⟨p, hp⟩ := h e (by simp)
    exact ⟨p :: l1, by simp only [List.map_cons, entVals, h1, hp]⟩
theorem entVals_inj : ∀ {l l' : List (ByteArray × Nat)}, entVals l = entVals l' → l = l'
  | [], [], _ => rfl
  | [], _ :: _, h => by simp [entVals] at h
  | _ :: _, [], h => by simp [entVals] at h
  | p :: l, q :: l', h => by
    simp only [entVals, List.map_cons, List.cons.injEq, Prod.mk.injEq, Value.string.injEq, Value.int.injEq, true_and] at h
    have e1 : p = q := Prod.ext h.1.1 (by omega)
    rw [e1, entVals_inj (l := l) (l' := l') h.2]
theorem entVals_perm : ∀ {A : List (Value × Value)} {l : List (ByteArray × Nat)}, A.Perm (entVals l) → ∃ l', A = entVals l' ∧ l'.Perm l := by
  intro A l h
  have main : ∀ {B A : List (Value × Value)}, B.Perm A → ∀ l, B = entVals l → ∃ l', A = entVals l' ∧ l.Perm l' := by
    intro B A h
    induction h with
    | nil => intro l hl; exact ⟨l, hl, List.Perm.refl _⟩
    | @cons x L1 L2 _ ih =>
      intro l hl
      cases l with
      | nil => simp [entVals] at hl
      | cons p l =>
        simp only [entVals, List.map_cons, List.cons.injEq] at hl
        obtain ⟨l', h1, h2⟩ := ih l hl.2
        exact ⟨p :: l', by rw [h1, hl.1]; rfl, h2.cons p⟩
    | @swap x y L =>
      intro l hl
      match l, hl with
      | [], hl => simp [entVals] at hl
      | [_], hl => simp [entVals] at hl
      | p :: q :: l, hl =>
        simp only [entVals, List.map_cons, List.cons.injEq] at hl
        exact ⟨q :: p :: l, by rw [hl.1, hl.2.1, hl.2.2]; rfl, List.Perm.swap _ _ _⟩
    | trans _ _ ih1 ih2 =>
      intro l hl
      obtain ⟨l1, h1, h2⟩ := ih1 l hl
      obtain ⟨l2, h3, h4⟩ := ih2 l1 h1
      exact ⟨l2, h3, h2.trans h4⟩
  obtain ⟨l', h1, h2⟩ := main h.symm l rfl
  exact ⟨l', h1, h2.symm⟩

/-- The step: nothing is left; or one of what is left, whichever, comes. -/
theorem Iter.next {P : Program} {w : World} {r m : Nat} {l todo} (h : Iter w r m l todo) :
    (todo = [] ∧ ∀ ty, (Instr.next (.pointer (some ⟨r, 0, none⟩)) false ty).run P w = .ok (.tuple #[.bool false]) w) ∨
    ∃ p rest w', todo.Perm (p :: rest) ∧ (∀ ty, (Instr.next (.pointer (some ⟨r, 0, none⟩)) false ty).run P w = .ok (.tuple #[.bool true, .string p.1, .int .i64 (p.2 : Int)]) w') ∧
      (Instr.entry (.pointer (some ⟨r, 0, none⟩))).run P w' = .ok (.tuple #[.string p.1, .int .i64 (p.2 : Int)]) w' ∧ Iter w' r m l rest ∧
      w'.os = w.os ∧ w'.tape = w.tape ∧ w'.output = w.output ∧ w'.heap.size = w.heap.size ∧ ∀ b, b ≠ r → w'.heap[b]? = w.heap[b]? := by
  obtain ⟨es, clock, since, seen, c0, hm, ho, hr, hold, hsc, hsk, ht⟩ := h
  have hmr : m ≠ r := fun e => by rw [e, hr] at hm; cases hm
  rcases run_next_at (P := P) w 0 r m since c0 seen es clock hr hm hold hsc with ⟨h0, _⟩ | ⟨e0, he0, _⟩
  · refine .inl ⟨?_, fun ty => ?_⟩
    · have h1 : (leftOf es seen).toList = [] := by simpa using Array.eq_empty_of_size_eq_zero h0
      rw [h1] at ht
      cases todo with
      | nil => rfl
      | cons _ _ => simp [entVals] at ht
    · rcases run_next_at (P := P) w ty r m since c0 seen es clock hr hm hold hsc with ⟨_, hrun⟩ | ⟨e1, he1, _⟩
      · exact hrun
      · have h1 : (leftOf es seen).toList = [] := by simpa using Array.eq_empty_of_size_eq_zero h0
        rw [h1] at he1; cases he1
  · have hty : ∀ ty, (Instr.next (.pointer (some ⟨r, 0, none⟩)) false ty).run P w = (Instr.next (.pointer (some ⟨r, 0, none⟩)) false 0).run P w := fun ty => rfl
    rcases run_next_at (P := P) w 0 r m since c0 seen es clock hr hm hold hsc with ⟨h0, _⟩ | ⟨e, he, w1, hal, hrun⟩
    · have h1 : (leftOf es seen).toList = [] := by simpa using Array.eq_empty_of_size_eq_zero h0
      rw [h1] at he0; cases he0
    · obtain ⟨hem, hes⟩ := mem_left he
      have hn : ((leftOf es seen).toList.map (·.born)).Nodup := by
        unfold leftOf
        rw [Array.toList_filter]
        exact List.Nodup.sublist (List.filter_sublist.map _) ho.apart
      have hperm := perm_born hn he
      rw [← left_push] at hperm
      have hp2 := (hperm.map fun e : MapEntry => (e.key, e.val))
      rw [ht] at hp2
      obtain ⟨l', hl', hpl⟩ := entVals_perm hp2.symm
      cases l' with
      | nil => simp [entVals] at hl'
      | cons p rest =>
        simp only [entVals, List.map_cons, List.cons.injEq, Prod.mk.injEq] at hl'
        obtain ⟨⟨hk, hv⟩, hrest⟩ := hl'
        have hr1 : w1.heap[r]? = some (.mapIter (some m) since seen c0) := by rcases hal with rfl | rfl <;> exact hr
        have hm1 : w1.heap[m]? = some (.map es clock) := by rcases hal with rfl | rfl <;> exact hm
        have hset := MapKept.heap_set (o' := .mapIter (some m) since (seen.push e.born) clock) hr1
        have hm2 : (setBlock w1 r (.mapIter (some m) since (seen.push e.born) clock)).heap[m]? = some (.map es clock) := (hset.2 m hmr).trans hm1
        refine .inr ⟨p, rest, setBlock w1 r (.mapIter (some m) since (seen.push e.born) clock), hpl.symm, fun ty => by rw [hty, hrun, hk, hv], ?_, ⟨es, clock, since, seen.push e.born, clock, hm2, ho, hset.1, hold, hsk, hsk, hrest⟩, ?_, ?_, ?_, ?_, fun b hb => ?_⟩
        · rw [run_entry_at _ r m since seen es clock e hset.1 hm2 hem ho.apart, hk, hv]
        · rcases hal with rfl | rfl <;> rfl
        · rcases hal with rfl | rfl <;> rfl
        · rcases hal with rfl | rfl <;> rfl
        · show (w1.heap.setIfInBounds r _).size = _
          rw [Array.size_setIfInBounds]
          rcases hal with rfl | rfl <;> rfl
        · rw [show (setBlock w1 r (.mapIter (some m) since (seen.push e.born) clock)).heap[b]? = w1.heap[b]? from hset.2 b hb]
          rcases hal with rfl | rfl <;> rfl
end Go.Proofs.Ytafonmnfeibaiaa
