import Derived.Test.YtafonmnfeibaiaaInO
import Derived.Test.YtafonmnfeibaiaaIter
import Derived.Sort.KeysCollected
namespace Go.Proofs.Ytafonmnfeibaiaa
open Go.RowKit Go.Maps Go.Sort Go.Shelf

/-! ### Names -/
/-- Every element reads as nothing: of the map's keys alone is spoken. -/
def anyR (_ : Value) : Option (DataW Unit × List MemPlace) := some (.nil, [])
theorem keys_list : ∀ (L : List MapEntry) (l : List (ByteArray × Nat)), L.map (fun e => (e.key, e.val)) = entVals l → (∀ p ∈ l, p.1.size ≤ maxLen) →
    L.map (fun e => strOf (WideElems.rg Try.prog 9 anyR e).1) = l.map fun p => bs p.1
  | [], [], _, _ => rfl
  | [], _ :: _, h, _ => by simp [entVals] at h
  | _ :: _, [], h, _ => by simp [entVals] at h
  | e :: L, p :: l, h, hs => by
    simp only [entVals, List.map_cons, List.cons.injEq, Prod.mk.injEq] at h
    have ih := keys_list L l h.2 fun q hq => hs q (List.mem_cons_of_mem _ hq)
    have hk : WideElems.rg Try.prog 9 anyR e = (.string p.1.data.toList, .nil) := by
      refine WideElems.rg_of ?_
      unfold WideElems.rd
      rw [h.1.1]
      simp [keyOf, mapKey, Try.underlying9, anyR, hs p (by simp)]
    rw [List.map_cons, List.map_cons, ih, hk]; rfl
theorem strKeys_map (es : List (Lit × DataW Unit)) : strKeys (DataW.map es) = es.map fun p => strOf p.1 := rfl
theorem strKeys_list (L : List MapEntry) (l : List (ByteArray × Nat)) (h : L.map (fun e => (e.key, e.val)) = entVals l) (hs : ∀ p ∈ l, p.1.size ≤ maxLen) :
    (strKeys (DataW.map ((L.map (WideElems.rg Try.prog 9 anyR)).foldr DataW.insert []))).Perm (l.map fun p => bs p.1) := by
  have e := (WideShapes.sorted_perm (L.map (WideElems.rg Try.prog 9 anyR))).map fun p => strOf p.1
  rw [List.map_map] at e
  have e2 := keys_list L l h hs
  rw [strKeys_map, ← e2]
  generalize WideElems.rg Try.prog 9 anyR = g at e ⊢
  exact e
theorem MapIs.owns {w : World} {m : Nat} {l : List (ByteArray × Nat)} (h : MapIs w m l) (hs : ∀ p ∈ l, p.1.size ≤ maxLen) (hl : l.length ≤ 40) :
    ∃ D0 : DataW Unit, w.ownsMap Try.prog 9 anyR m 40 D0 ∧ (strKeys D0).Perm (l.map fun p => bs p.1) ∧ Maps.size D0 ≤ 40 := by
  obtain ⟨es, clock, h1, h2⟩ := h
  have hlen : es.size = l.length := by have := congrArg List.length h2.vals; simpa [entVals] using this
  refine ⟨_, ⟨es, clock, h1, ⟨?_, (MapKept.stamped_iff es clock).2 ⟨h2.born, h2.apart, ?_⟩, fun x hx => ?_⟩, by omega, rfl⟩, ?_, ?_⟩
  · have : (40 : Nat) ≤ maxLen := by decide
    omega
  · have e1 : es.toList.map (·.key) = l.map fun p => Value.string p.1 := by
      have := congrArg (List.map (·.1)) h2.vals
      unfold entVals at this
      rw [List.map_map, List.map_map] at this
      exact this
    have e2 : (es.toList.map (·.key)).Pairwise (· ≠ ·) := by
      rw [e1, List.pairwise_map]
      have e3 := List.pairwise_map.1 h2.keys
      exact e3.imp fun hne e => hne (Value.string.inj e)
    exact List.pairwise_map.1 e2
  · have hm : (x.key, x.val) ∈ entVals l := by rw [← h2.vals]; exact List.mem_map.2 ⟨x, hx, rfl⟩
    obtain ⟨p, hp, e⟩ := entVals_mem hm
    obtain ⟨e1, _⟩ := Prod.mk.inj e
    refine ⟨(.string p.1.data.toList, .nil), ?_⟩
    unfold WideElems.rd
    rw [e1]
    simp [keyOf, mapKey, Try.underlying9, anyR, hs p hp]
  · exact strKeys_list es.toList l h2.vals hs
  · show ((es.toList.map (WideElems.rg Try.prog 9 anyR)).foldr DataW.insert []).length ≤ 40
    have e := length_sorted (es.toList.map (WideElems.rg Try.prog 9 anyR))
    rw [List.length_map, Array.length_toList] at e
    exact Nat.le_trans (Nat.le_of_eq (e.trans hlen)) hl
def namesT (T : IT.Tr) (k : Nat) : List IT.Bytes := match T k with
  | none => []
  | some m => m.names.map (·.1)
theorem ord_sorted {l : List (IT.Bytes × Nat)} (h : IT.Ord l) {ss : List (List UInt8)} (hp : ss.Perm (l.map (·.1))) : ss.mergeSort (fun x y => decide (x ≤ y)) = l.map (·.1) := by
  rw [mergeSort_of_perm hp]
  refine List.mergeSort_of_pairwise ?_
  rw [List.pairwise_map]
  exact h.imp fun hlt => by simpa using List.le_of_lt hlt
set_option maxHeartbeats 1000000 in
theorem names_map {w : World} {t b mb : Nat} {S : Tab} {n : Nd} (h : Rep w t S) (ki : Int) (hk : S ki.toNat = some (b, n)) (hm : n.mp = some mb) (D0 : DataW Unit) (hown : w.ownsMap Try.prog 9 anyR mb 40 D0) (hsz : Maps.size D0 ≤ 40) :
    Calls Try.prog 27 #[.pointer (some ⟨t, 0, none⟩), .int .i64 ki] w fun e w' => ∃ (v : Value) (ss : List (List UInt8)), e = .returned v ∧ ss.Perm (strKeys D0) ∧
      w'.ownsRow w.heap.size 9 1 v ss.length ((ss.mergeSort (fun x y => decide (x ≤ y))).map encStr) ∧ (v = .slice none 0 0 ↔ ss = []) ∧ Below w.heap.size w w' := by
  have c10 : w.cell? ⟨b, 10, none⟩ = some (.map (some mb)) := by rw [h.cellN hk 10]; show some (Value.map n.mp) = _; rw [hm]
  have hmax : Maps.size D0 ≤ maxLen := Nat.le_trans hsz (by decide)
  have hbytes : Maps.size D0 * 16 ≤ 140737488355328 := by omega
  have H := Lib.hid h
  have HK := Lib.hid hk
  clear h hk hm hsz
  refine (callsIn_wide (n := 6)).1 ?_
  have hfA : Fence.wide.fn 41 := trivial
  have hfK : Fence.wide.fn 55 := trivial
  have hfS : Fence.wide.fn 54 := trivial
  refine callsIn_of_wp Try.func27 rfl trivial ?_ rfl
  simp only [Try.ntmps27, List.size_toArray, List.length_cons, List.length_nil, Nat.reduceAdd, Nat.reduceSub, Array.replicate_succ, Array.replicate_zero, List.push_toArray, List.append_toArray, List.nil_append, List.cons_append]
  gi_wp2_with (first
    | (gi_at_call 41; refine (callsIn_wide.2 (H.out.at_some _ HK.out)).mono ?_; rintro e w' ⟨rfl, rfl⟩)
    | (gi_at_call 55; refine (Try.maps_Keys_55 _ _).mono ?_; rintro e w' ⟨rfl, rfl⟩)
    | (gi_at_call 54; refine (Try.slices_Sorted_keys_54_55 mb 40 D0 anyR w hown hmax hbytes).mono ?_; rintro e w' ⟨v, ss, rfl, hS, hrow, hnil, hb⟩))
  go_ret
  exact ⟨v, ss, rfl, hS, ownsRow_base_a hrow (by simp), hnil, ((Below.refl _ w).alloc (Nat.le_refl _) _).trans (hb.mono (by simp))⟩
set_option maxHeartbeats 1000000 in
theorem names_nomap {w : World} {t b : Nat} {S : Tab} {n : Nd} (h : Rep w t S) (ki : Int) (hk : S ki.toNat = some (b, n)) (hm : n.mp = none) :
    Calls Try.prog 27 #[.pointer (some ⟨t, 0, none⟩), .int .i64 ki] w fun e w' => e = .returned (.slice none 0 0) ∧ Below w.heap.size w w' := by
  have c10 : w.cell? ⟨b, 10, none⟩ = some (.map none) := by rw [h.cellN hk 10]; show some (Value.map n.mp) = _; rw [hm]
  have H := Lib.hid h
  have HK := Lib.hid hk
  clear h hk hm
  refine (callsIn_wide (n := 6)).1 ?_
  have hfA : Fence.wide.fn 41 := trivial
  have hfK : Fence.wide.fn 55 := trivial
  have hfS : Fence.wide.fn 54 := trivial
  refine callsIn_of_wp Try.func27 rfl trivial ?_ rfl
  simp only [Try.ntmps27, List.size_toArray, List.length_cons, List.length_nil, Nat.reduceAdd, Nat.reduceSub, Array.replicate_succ, Array.replicate_zero, List.push_toArray, List.append_toArray, List.nil_append, List.cons_append]
  gi_wp2_with (first
    | (gi_at_call 41; refine (callsIn_wide.2 (H.out.at_some _ HK.out)).mono ?_; rintro e w' ⟨rfl, rfl⟩)
    | (gi_at_call 55; refine (Try.maps_Keys_55 _ _).mono ?_; rintro e w' ⟨rfl, rfl⟩)
    | (gi_at_call 54; refine (Try.slices_Sorted_keys_nil_54_55 w).mono ?_; rintro e w' ⟨v, ss, rfl, hS, hrow, hnil, hb⟩))
  go_ret
  exact ⟨by rw [hnil.2 hS]; rfl, ((Below.refl _ w).alloc (Nat.le_refl _) _).trans (hb.mono (by simp))⟩
set_option maxHeartbeats 400000 in
theorem names_none {w : World} {t : Nat} {S : Tab} (h : Rep w t S) (ki : Int) (hk : S ki.toNat = none) :
    Calls Try.prog 27 #[.pointer (some ⟨t, 0, none⟩), .int .i64 ki] w fun e w' => e = .returned (.slice none 0 0) ∧ w = w' := by
  have H := Lib.hid h
  have HK := Lib.hid hk
  clear h hk
  go_enter Try.func27, Try.ntmps27
  go_wp2_with fail
  refine (H.out.at_none _ HK.out).mono ?_
  rintro e w' ⟨rfl, rfl⟩
  go_wp2
  go_ret
  exact ⟨rfl, rfl⟩
theorem okN_len {l : IT.Bytes} (h : okN l = true) : l.length ≤ 14 := (of_decide_eq_true h).2.1
theorem names_any {w : World} {t : Nat} {S : Tab} {T : IT.Tr} (h : Tre w t S T) (ki : Int) :
    Calls Try.prog 27 #[.pointer (some ⟨t, 0, none⟩), .int .i64 ki] w fun e w' => ∃ v, e = .returned v ∧ w'.ownsRow w.heap.size 9 1 v (namesT T ki.toNat).length ((namesT T ki.toNat).map encStr) ∧ (v = .slice none 0 0 ↔ namesT T ki.toNat = []) ∧ Below w.heap.size w w' := by
  have hnil : ∀ (W : World) (b : Nat), W.ownsRow b 9 1 (.slice none 0 0) 0 [] := fun W b => W.ownsRow_nil b 9 1
  unfold namesT
  cases hk : S ki.toNat with
  | none =>
    rw [(h.none_iff _).1 hk]
    refine (names_none h.rep ki hk).mono ?_
    rintro e w' ⟨rfl, rfl⟩
    exact ⟨_, rfl, hnil _ _, by simp, Below.refl _ _⟩
  | some q =>
    obtain ⟨b, n⟩ := q
    obtain ⟨m, hT, hkp⟩ := h.get hk
    rw [hT]
    have hp : (ents n.names).Perm m.names := hkp.names
    cases hm : n.mp with
    | none =>
      have hn := h.rep.nomap _ b n hk hm
      have hmn : m.names = [] := by rw [hn] at hp; exact (List.Perm.nil_eq hp).symm
      refine (names_nomap h.rep ki hk hm).mono ?_
      rintro e w' ⟨rfl, hb⟩
      dsimp only
      rw [hmn]
      exact ⟨_, rfl, hnil _ _, by simp, hb⟩
    | some mb =>
      have hs : ∀ p ∈ n.names, p.1.size ≤ maxLen := fun p hpm => by
        have h1 := h.snd.1.okn _ m (bs p.1, p.2) hT (hp.mem_iff.1 (List.mem_map.2 ⟨p, hpm, rfl⟩))
        have h2 := okN_len h1
        rw [bs_len] at h2
        exact Nat.le_trans h2 (by decide)
      obtain ⟨D0, hown, hpk, hsz⟩ := (h.rep.map _ b n mb hk hm).owns hs (h.rep.small _ b n hk).2
      refine (names_map h.rep ki hk hm D0 hown hsz).mono ?_
      rintro e w' ⟨v, ss, rfl, hS, hrow, hv, hb⟩
      have hss : ss.Perm (m.names.map (·.1)) := by
        refine (hS.trans hpk).trans ?_
        have := hp.map (·.1)
        unfold ents at this
        rw [List.map_map] at this
        exact this
      have hlen : ss.length = (m.names.map (·.1)).length := hss.length_eq
      rw [ord_sorted (h.snd.1.ord _ m hT) hss, hlen] at hrow
      refine ⟨v, rfl, hrow, ?_, hb⟩
      rw [hv]
      constructor
      · intro e; rw [e] at hss; exact (List.Perm.nil_eq hss).symm
      · intro e
        dsimp only at e
        rw [e] at hss; exact hss.eq_nil
end Go.Proofs.Ytafonmnfeibaiaa
