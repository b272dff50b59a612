/- The document's Split of a path. -/
import Derived.Test.YtmfbmjnoepcigaaGreatDoorPe
import Derived.Deep.AppendLies
import Derived.Laws.OwnMore
import Derived.Deep.RegionHeld3
import Derived.Deep.CutRange
namespace Go.Proofs.YtmfbmjnoepcigaaGreatDoor.Pp
open Go.RowKit

/-- A slice of strings, as it reads. -/
def Sl (w : World) (v : Value) (l : List ByteArray) : Prop :=
  ∃ a cap, v = .slice a l.length cap ∧ ∀ j (h : j < l.length), ∃ b off, a = some ⟨b, off, none⟩ ∧ w.cell? ⟨b, off + j, none⟩ = some (.string l[j])
theorem Sl.of_own {w : World} {base : Nat} {v : Value} {l : List ByteArray} (h : w.ownsRow base 9 1 v l.length (l.map .string)) : Sl w v l := by
  obtain ⟨_, ⟨rfl, h0⟩ | ⟨g, cap, cur, rfl, hb, hh, hn, hc, hs, ht⟩⟩ := h
  · exact ⟨none, 0, by rw [h0], fun j hj => by omega⟩
  · refine ⟨_, cap, rfl, fun j hj => ⟨g, 0, rfl, ?_⟩⟩
    have h1 : (l.map Value.string)[j]? = some (.string l[j]) := by simp [hj]
    rw [← ht, List.getElem?_take] at h1
    rw [if_pos (by omega)] at h1
    simpa [World.cell?, hh] using h1

def PartsAt (s : ByteArray) (k f : Nat) (l : List ByteArray) : Prop :=
  f ≤ k ∧ parts s.data.toList = l.map (fun x => x.data.toList) ++ partsA (s.data.toList.drop k) ((s.data.toList.take k).drop f).reverse
theorem PartsAt.start (s : ByteArray) : PartsAt s 0 0 [] := ⟨Nat.le_refl _, by simp [parts]⟩
theorem PartsAt.piece {s : ByteArray} {k f : Nat} (hf : f ≤ k) (hk : k ≤ s.size) : ((s.data.toList.take k).drop f = [] ↔ f = k) := by
  rw [List.drop_eq_nil_iff, List.length_take, sz]; omega
theorem PartsAt.go {s : ByteArray} {k f : Nat} {l : List ByteArray} (h : PartsAt s k f l) (hk : k < s.size) (hc : s[k] ≠ 47) : PartsAt s (k + 1) f l := by
  obtain ⟨h1, h2⟩ := h
  refine ⟨by omega, ?_⟩
  have hkl : k < s.data.toList.length := by rw [sz]; exact hk
  have hg : s.data.toList[k] = s[k] := by rw [toList_get, data_get s k hk]
  have hfl : f ≤ (s.data.toList.take k).length := by rw [List.length_take, sz]; omega
  rw [h2, List.drop_eq_getElem_cons hkl, hg, List.take_succ_eq_append_getElem hkl, hg, List.drop_append_of_le_length hfl]
  simp [partsA, hc]
theorem PartsAt.skip {s : ByteArray} {k : Nat} {l : List ByteArray} (h : PartsAt s k k l) (hk : k < s.size) (hc : s[k] = 47) : PartsAt s (k + 1) (k + 1) l := by
  obtain ⟨h1, h2⟩ := h
  refine ⟨by omega, ?_⟩
  have hkl : k < s.data.toList.length := by rw [sz]; exact hk
  have hg : s.data.toList[k] = s[k] := by rw [toList_get, data_get s k hk]
  have e1 : (s.data.toList.take k).drop k = [] := (PartsAt.piece (Nat.le_refl _) (by omega)).2 rfl
  have e2 : (s.data.toList.take (k + 1)).drop (k + 1) = [] := (PartsAt.piece (Nat.le_refl _) (by omega)).2 rfl
  rw [h2, List.drop_eq_getElem_cons hkl, hg, hc, e1, e2]
  simp [partsA]
theorem PartsAt.add {s : ByteArray} {k f : Nat} {l : List ByteArray} (h : PartsAt s k f l) (hk : k < s.size) (hc : s[k] = 47) (hf : f < k) : PartsAt s (k + 1) (k + 1) (l ++ [s.extract f k]) := by
  obtain ⟨h1, h2⟩ := h
  refine ⟨by omega, ?_⟩
  have hkl : k < s.data.toList.length := by rw [sz]; exact hk
  have hg : s.data.toList[k] = s[k] := by rw [toList_get, data_get s k hk]
  have e1 : ¬ (s.data.toList.take k).drop f = [] := fun e => by have := (PartsAt.piece h1 (by omega)).1 e; omega
  have e2 : (s.data.toList.take (k + 1)).drop (k + 1) = [] := (PartsAt.piece (Nat.le_refl _) (by omega)).2 rfl
  rw [h2, List.drop_eq_getElem_cons hkl, hg, hc, e2, List.map_append]
  simp only [partsA, if_true, List.reverse_eq_nil_iff, e1, if_false, List.map_cons, List.map_nil, List.reverse_nil, List.reverse_reverse, List.append_assoc, List.cons_append, List.nil_append]
  rw [ex_data]
theorem PartsAt.all {s : ByteArray} {l : List ByteArray} (h : PartsAt s s.size s.size l) : parts s.data.toList = l.map (fun x => x.data.toList) := by
  have e : (s.data.toList.take s.size).drop s.size = [] := (PartsAt.piece (Nat.le_refl _) (Nat.le_refl _)).2 rfl
  rw [h.2, e, List.drop_of_length_le (by rw [sz]; exact Nat.le_refl _)]
  simp [partsA]
theorem PartsAt.end {s : ByteArray} {f : Nat} {l : List ByteArray} (h : PartsAt s s.size f l) (hf : f < s.size) : parts s.data.toList = (l ++ [s.extract f s.size]).map (fun x => x.data.toList) := by
  have e : ¬ (s.data.toList.take s.size).drop f = [] := fun e => by have := (PartsAt.piece h.1 (Nat.le_refl _)).1 e; omega
  rw [h.2, List.drop_of_length_le (by rw [sz]; exact Nat.le_refl _)]
  simp only [partsA, List.reverse_eq_nil_iff, e, if_false, List.map_append, List.map_cons, List.map_nil, List.reverse_reverse]
  rw [ex_data]

/-- A new slice of strings. -/
def NewStrs (w : World) (l : List ByteArray) (e : Ending) (w' : World) : Prop :=
  ∃ v, e = .returned v ∧ w'.ownsRow w.heap.size 9 1 v l.length (l.map .string) ∧ Below w.heap.size w w'
def partsPost (s : ByteArray) (w : World) (e : Ending) (w' : World) : Prop := ∃ l, parts s.data.toList = l.map (fun x => x.data.toList) ∧ NewStrs w l e w'

set_option maxHeartbeats 2000000 in
set_option maxRecDepth 100000 in
theorem parts_any (s : ByteArray) (w : World) (hs : s.size ≤ 1048576) : Calls Tryz.prog 86 #[.string s] w (partsPost s w) := by
  obtain ⟨i0, hi, hz0, hz1, hz2⟩ := info_parts info9
  have hs1 : (s.size : Int) ≤ 1048576 := by omega
  go_enter Tryz.func86, Tryz.ntmps86
  go_wp2
  go_loopw [3, 4, 5] (fun o f i wr => ∃ (k f' : Nat) (l : List ByteArray), i = .int .i64 k ∧ f = .int .i64 f' ∧ l.length ≤ k ∧ Below w.heap.size w wr ∧ wr.ownsRow w.heap.size 9 1 o l.length (l.map .string) ∧ ((k ≤ s.size ∧ f' ≤ k ∧ PartsAt s k f' l) ∨ (k = s.size + 1 ∧ f' ≤ k ∧ parts s.data.toList = l.map (fun x => x.data.toList)))) (fun _ _ i _ => s.size + 1 - (intOf i).toNat)
  case atStart => exact ⟨0, 0, [], rfl, rfl, Nat.zero_le _, Below.refl _ _, ⟨rfl, .inl ⟨rfl, rfl⟩⟩, .inl ⟨Nat.zero_le _, Nat.le_refl _, PartsAt.start s⟩⟩
  case round =>
    obtain ⟨k, f, l, rfl, rfl, hl, hb, ho, hr⟩ := hrel
    have HB := Lib.hid hb
    have HO := Lib.hid ho
    clear hb ho
    rcases hr with ⟨hk, hf, hp⟩ | ⟨hk, hf, hp⟩
    · have HP := Lib.hid hp
      clear hp
      by_cases hlt : k < s.size
      · by_cases hc : s[k] = 47
        · have hcb : ((s[k].toNat : Int) == 47) = true := by rw [hc]; rfl
          have HC := Lib.hid hc
          clear hc
          by_cases hfk : f < k
          · have hfk1 : (f : Int) < k := by omega
            go_wp2_with (at_builtin; refine wpList_append_own _ rfl _ _ 56 rfl w.heap.size 9 i0 (.string ByteArray.empty) 1 16 Tryz.underlying56 hi hz0 hz1 hz2 rfl (by decide) _ _ _ rfl (HO.out.alloc _) ⟨wr.heap.size, 0, none⟩ 1 1 [.string (s.extract f k)] rfl rfl (cell_one_new _ _ _) (by simp [Value.oneCell']) (by unfold maxLen; omega) (by omega) (by have := HB.out.size; simp; omega) ?_; intro v' w1 hown' hgrow _)
            have HB1 := Lib.hid (app_below HB.out HO.out _ hgrow)
            have HO1 := Lib.hid hown'
            clear hgrow hown'
            go_wp2
            go_roundw
            case rel => exact ⟨k + 1, k + 1, l ++ [s.extract f k], by go_num, by go_num, by simp; omega, HB1.out, by simpa using HO1.out, .inl ⟨by omega, Nat.le_refl _, HP.out.add hlt HC.out hfk⟩⟩
            case measure => simp [intOf]; omega
          · obtain rfl : f = k := by omega
            go_wp2
            go_roundw
            case rel => exact ⟨f + 1, f + 1, l, by go_num, by go_num, by omega, HB.out, HO.out, .inl ⟨by omega, Nat.le_refl _, HP.out.skip hlt HC.out⟩⟩
            case measure => simp [intOf]; omega
        · have hcb : ((s[k].toNat : Int) == 47) = false := by
            simp; exact fun h => hc (UInt8.toNat_inj.1 (by have e : (47 : UInt8).toNat = 47 := rfl; omega))
          have HC := Lib.hid hc
          clear hc
          go_wp2
          go_roundw
          case rel => exact ⟨k + 1, f, l, by go_num, rfl, by omega, HB.out, HO.out, .inl ⟨by omega, by omega, HP.out.go hlt HC.out⟩⟩
          case measure => simp [intOf]; omega
      · obtain rfl : k = s.size := by omega
        by_cases hfk : f < s.size
        · have hfk1 : (f : Int) < s.size := by omega
          go_wp2_with (at_builtin; refine wpList_append_own _ rfl _ _ 56 rfl w.heap.size 9 i0 (.string ByteArray.empty) 1 16 Tryz.underlying56 hi hz0 hz1 hz2 rfl (by decide) _ _ _ rfl (HO.out.alloc _) ⟨wr.heap.size, 0, none⟩ 1 1 [.string (s.extract f s.size)] rfl rfl (cell_one_new _ _ _) (by simp [Value.oneCell']) (by unfold maxLen; omega) (by omega) (by have := HB.out.size; simp; omega) ?_; intro v' w1 hown' hgrow _)
          have HB1 := Lib.hid (app_below HB.out HO.out _ hgrow)
          have HO1 := Lib.hid hown'
          clear hgrow hown'
          go_wp2
          go_roundw
          case rel => exact ⟨s.size + 1, s.size + 1, l ++ [s.extract f s.size], by go_num, by go_num, by simp; omega, HB1.out, by simpa using HO1.out, .inr ⟨rfl, Nat.le_refl _, HP.out.end hfk⟩⟩
          case measure => simp [intOf]
        · obtain rfl : f = s.size := by omega
          go_wp2
          go_roundw
          case rel => exact ⟨s.size + 1, s.size + 1, l, by go_num, by go_num, by omega, HB.out, HO.out, .inr ⟨rfl, Nat.le_refl _, HP.out.all⟩⟩
          case measure => simp [intOf]
    · subst hk
      have HP := Lib.hid hp
      clear hp
      go_wp2
      go_ret
      exact ⟨l, HP.out, _, rfl, HO.out, HB.out⟩
theorem belowN {n : Nat} {w W : World} (h : Below n w W) (k : Nat) : Below n w (W.drewN k) := h.trans ⟨rfl, rfl, rfl, Nat.le_refl _, fun _ _ => rfl⟩

theorem at_new (w : World) (o : Obj) : (w.alloc o).heap[w.heap.size]? = some o := by
  show (w.heap.push o)[w.heap.size]? = some o
  simp
theorem own_new (w : World) (cs : Array Value) (base n B : Nat) (hB : w.heap.size = B) (hb : base ≤ w.heap.size) (hn : cs.size = n) (hm : n ≤ maxLen) :
    (w.alloc (.cells cs 9)).ownsRow base 9 1 (.slice (some ⟨B, 0, none⟩) n n) n cs.toList :=
  hB ▸ ⟨by simp [hn], .inr ⟨w.heap.size, n, cs, rfl, hb, at_new _ _, Nat.le_refl _, hm, by omega, by rw [List.take_of_length_le (by simp [hn])]⟩⟩
theorem own_drew {w : World} {base n : Nat} {v : Value} {xs : List Value} (h : w.ownsRow base 9 1 v n xs) : w.drew.ownsRow base 9 1 v n xs := own_same h fun _ _ _ h => h
theorem sl_n {w : World} {base n : Nat} {v : Value} {xs : List Value} {l : List ByteArray} (h : w.ownsRow base 9 1 v n xs) (hn : l.length = n) (hx : xs = l.map .string) : Sl w v l := by
  subst hn; subst hx; exact Sl.of_own h
theorem partsA_len : ∀ (l acc : Bytes), (partsA l acc).length ≤ l.length + 1
  | [], acc => by by_cases e : acc = [] <;> simp [partsA, e]
  | c :: l, acc => by
    by_cases hc : c = 47
    · have := partsA_len l []
      by_cases e : acc = []
      · simp only [partsA, hc, e, if_true, List.length_cons]; omega
      · simp only [partsA, hc, e, if_true, if_false, List.length_cons]; omega
    · have := partsA_len l (c :: acc)
      simp only [partsA, hc, if_false, List.length_cons]; omega

theorem run_app_row {P : Program} (w : World) (t ty : TypeId) (base : Nat) (e : TypeId) (i : TypeInfo) (z : Value) (bytes : Nat) (ht : P.underlying t = some (.slice e)) (hi : P.info? e = some i) (hz : i.zero = some z)
    (hsize : i.size = 1) (hby : i.bytes = bytes) (hzs : z.cells.size = 1)
    (v : Value) (n : Nat) (xs : List Value) (hown : w.ownsRow base e 1 v n xs)
    (bu : Nat) (u : Value) (m : Nat) (news : List Value) (hu : w.ownsRow bu e 1 u m news) (h1 : ∀ u ∈ news, u.oneCell' = true)
    (h63 : n + m ≤ maxLen) (hbytes : (n + m) * bytes ≤ 140737488355328) (hbase : base ≤ w.heap.size) :
    ∃ v' w', (Builtin.append_ #[t, t] ty #[v, u]).run P w = .ok v' w' ∧ w'.ownsRow base e 1 v' (n + m) (xs ++ news) ∧ w.grownBy w' v.ownBlock := by
  rcases hu.2 with ⟨rfl, h0⟩ | ⟨g, cap, cur, rfl, hb, hh, hn, hc, hs, htk⟩
  · subst h0
    have hnil : news = [] := List.eq_nil_of_length_eq_zero (by rw [hu.1])
    subst hnil
    exact ⟨v, w, run_append_owned_none (P := P) w base t ty e i 1 ht hi v n xs hown, by simpa using hown, World.grownBy.refl _ _⟩
  · obtain ⟨v', w', hr, h2, h3, _, _⟩ := run_append_own_at (P := P) w base t ty e i z 1 bytes ht hi hz hsize hby hzs (by decide) v n xs hown ⟨g, 0, none⟩ m cap news hu.1 (hu.cells rfl) h1 h63 hbytes hbase
    exact ⟨v', w', hr, h2, h3⟩

theorem step_app_row {P : Program} {w : World} {ops : Array Oper} {o : Oper} {a : Act} {K : Act → World → Prop} {Q : Exit → Act → World → Prop} {E : Prop} (hgd : o.guard = none) (s x : Operand) (t : TypeId)
    (ho : o.op = .call { callee := .builtin .append, args := #[s, x], argTypes := #[t, t] })
    (base : Nat) (e : TypeId) (i : TypeInfo) (z : Value) (bytes : Nat) (ht : P.underlying t = some (.slice e)) (hi : P.info? e = some i) (hz : i.zero = some z)
    (hsize : i.size = 1) (hby : i.bytes = bytes) (hzs : z.cells.size = 1)
    (v : Value) (n : Nat) (xs : List Value) (hs : a.eval s = v) (hown : w.ownsRow base e 1 v n xs)
    (bu : Nat) (u : Value) (m : Nat) (news : List Value) (hx : a.eval x = u) (hu : w.ownsRow bu e 1 u m news) (h1 : ∀ u ∈ news, u.oneCell' = true)
    (h63 : n + m ≤ maxLen) (hbytes : (n + m) * bytes ≤ 140737488355328) (hbase : base ≤ w.heap.size)
    (h : ∀ v' w', w'.ownsRow base e 1 v' (n + m) (xs ++ news) → w.grownBy w' v.ownBlock → Below base w w' → K (a.put o.dst v') w') :
    if Region.wanted o (yielded ops a.tmps) = true then Oper.wp P o a w K Q else E := by
  have hw : Region.wanted o (yielded ops a.tmps) = true := by simp [Region.wanted, hgd]
  rw [if_pos hw]
  obtain ⟨v', w', hr, h2, h3⟩ := run_app_row (P := P) w t o.type base e i z bytes ht hi hz hsize hby hzs v n xs hown bu u m news hu h1 h63 hbytes hbase
  unfold Oper.wp execOp
  simp only [ho, resolve, invoke, builtin, Sem.run_bind, Sem.run_pure, Result.andThen_ok, List.map_toArray, List.map_cons, List.map_nil, hs, hx, hr]
  exact h v' w' h2 h3 ((Below.refl _ _).grown h3 hbase (own_ge hown))
theorem suffix_last (d : ByteArray) (h0 : ¬ d.data.toList = []) : Lib.hasSuffix d.data.toList [47] = decide (d.data[d.size - 1]! = 47) := by
  have hz : 0 < d.size := by rw [← sz]; exact List.length_pos_iff.2 h0
  have hlast : d.data.toList.getLast h0 = d.data[d.size - 1]! := by
    rw [List.getLast_eq_getElem, toList_get]; simp
  rw [Bool.eq_iff_iff, decide_eq_true_eq, ← hlast]
  show List.isSuffixOf [47] d.data.toList = true ↔ _
  rw [List.isSuffixOf_iff_suffix]
  constructor
  · rintro ⟨t, ht⟩
    simp only [← ht, List.getLast_append, List.getLast_singleton]
    simp
  · intro h
    exact ⟨d.data.toList.dropLast, by rw [← h]; exact List.dropLast_concat_getLast h0⟩
abbrev Z25 : Obj := .cells #[.bool false, .slice none 0 0, .bool false] 76
theorem rsplit_zero {s : ByteArray} {w W : World} {err : Int} (hb : Below w.heap.size w W) (hs : splitS s.data.toList = (false, false, [], err)) : splitPost s w (.returned (.tuple #[.agg #[.bool false, .slice none 0 0, .bool false], .int .i64 err])) W :=
  ⟨false, false, .slice none 0 0, [], err, rfl, ⟨rfl, .inl ⟨rfl, rfl⟩⟩, hb, hs⟩

theorem leave11 {T : Array Value} {W : World} (n0 : Nat) {A D : Bool} {V : Value} {E : Int} (hT2 : T[2]? = some (.pointer (some ⟨n0, 0, none⟩))) (hT3 : T[3]? = some (.int .i64 E))
    (hres : W.heap[n0]? = some (.cells #[.bool A, V, .bool D] 76 (0, 0))) {R : Ending → World → Prop} (hV : ∃ a n c, V = .slice a n c)
    (hR : R (.returned (.tuple #[.agg #[.bool A, V, .bool D], .int .i64 E])) W) : bodyPost Tryz.prog Tryz.f57 R .ret { tmps := T, defers := [] } W := by
  obtain ⟨a, n, c, rfl⟩ := hV
  have c0 : W.cell? ⟨n0, 0, none⟩ = some (.bool A) := heap_cell hres 0
  have c1 : W.cell? ⟨n0, 1, none⟩ = some (.slice a n c) := heap_cell hres 1
  have c2 : W.cell? ⟨n0, 2, none⟩ = some (.bool D) := heap_cell hres 2
  exact bodyPost_ret (by simp [results, Tryz.results57, go_sem, hT2, hT3, c0, c1, c2]) rfl hR
/-- The zero value, stored and returned. -/
theorem leave_zero {T : Array Value} {s : ByteArray} {w W : World} {E : Int} (hT2 : T[2]? = some (.pointer (some ⟨w.heap.size, 0, none⟩))) (hT3 : T[3]? = some (.int .i64 E))
    (h : W.heap[w.heap.size]? = some Z25) (hb : Below w.heap.size w W) (hs : splitS s.data.toList = (false, false, [], E)) :
    bodyPost Tryz.prog Tryz.f57 (splitPost s w) .ret { tmps := T, defers := [] }
      (((W.setCell ⟨w.heap.size, 0, none⟩ (.bool false)).setCell ⟨w.heap.size, 1, none⟩ (.slice none 0 0)).setCell ⟨w.heap.size, 2, none⟩ (.bool false)) :=
  leave11 w.heap.size (A := false) (D := false) (V := .slice none 0 0) hT2 hT3 (set_same (set_same (set_same h _) _) _) ⟨none, 0, 0, rfl⟩
    (rsplit_zero (((hb.setCell (Nat.le_refl _) _).setCell (Nat.le_refl _) _).setCell (Nat.le_refl _) _) hs)

/-- The path that is being made: its struct lies in the first block behind w1, the names behind that. -/
structure PI (w1 : World) (A D : Bool) (v : Value) (xs : List ByteArray) (W : World) : Prop where
  b : Below w1.heap.size w1 W
  p : W.heap[w1.heap.size]? = some (.cells #[.bool A, v, .bool D] 76 (0, 0))
  n : W.ownsRow (w1.heap.size + 1) 9 1 v xs.length (xs.map .string)
theorem PI.lt {w1 W : World} {A D : Bool} {v : Value} {xs : List ByteArray} (h : PI w1 A D v xs W) : w1.heap.size < W.heap.size := by
  rcases Nat.lt_or_ge w1.heap.size W.heap.size with h1 | h1
  · exact h1
  · have := h.p; rw [Array.getElem?_eq_none h1] at this; cases this
theorem PI.drewN {w1 W : World} {A D : Bool} {v : Value} {xs : List ByteArray} (h : PI w1 A D v xs W) (z : Nat) : PI w1 A D v xs (W.drewN z) :=
  ⟨belowN h.b z, h.p, own_same h.n fun _ _ _ h => h⟩
theorem PI.start (w1 : World) (z : Nat) (A D : Bool) : PI w1 A D (.slice none 0 0) []
    (((((w1.drewN z).alloc (.cells #[.bool false, .slice none 0 0, .bool false] 76)).setCell ⟨w1.heap.size, 0, none⟩ (.bool A)).setCell ⟨w1.heap.size, 1, none⟩ (.slice none 0 0)).setCell ⟨w1.heap.size, 2, none⟩ (.bool D)) where
  b := ((((belowN (Below.refl _ _) z).alloc (Nat.le_refl _) _).setCell (Nat.le_refl _) _).setCell (Nat.le_refl _) _).setCell (Nat.le_refl _) _
  p := set_same (set_same (set_same (at_new (w1.drewN z) Z25) _) _) _
  n := ⟨rfl, .inl ⟨rfl, rfl⟩⟩
theorem PI.setD {w1 W : World} {A D : Bool} {v : Value} {xs : List ByteArray} (h : PI w1 A D v xs W) (D' : Bool) : PI w1 A D' v xs (W.setCell ⟨w1.heap.size, 2, none⟩ (.bool D')) where
  b := h.b.setCell (Nat.le_refl _) _
  p := set_same h.p _
  n := own_same h.n fun g o hg hh => set_other hh _ (by omega)

theorem eq47 (x : UInt8) : ((x.toNat : Int) == 47) = decide (x = 47) := by
  by_cases h : x = 47
  · subst h; rfl
  · have : ¬ (x.toNat : Int) = 47 := fun e => h (by apply UInt8.toNat_inj.1; show x.toNat = 47; omega)
    simp [h, this]
theorem pre_first (s : ByteArray) (h : 0 < s.size) : Lib.hasPrefix s.data.toList [47] = ((s[0].toNat : Int) == 47) := by
  obtain ⟨⟨L⟩⟩ := s
  cases L with
  | nil => cases h
  | cons x r =>
    rw [eq47]
    show ((47 == x) && true) = decide (x = 47)
    by_cases e : x = 47
    · subst e; rfl
    · have : (47 == x) = false := by simpa using fun h => e h.symm
      simp [e, this]
theorem own_set {w : World} {n i : Nat} {v u : Value} {m : Nat} {xs : List Value} (h : w.ownsRow (n + 1) 9 1 v m xs) : (w.setCell ⟨n, i, none⟩ u).ownsRow (n + 1) 9 1 v m xs :=
  own_same h fun _ _ _ hh => set_other hh _ (by omega)
theorem own_form {w : World} {base n : Nat} {v : Value} {xs : List Value} (h : w.ownsRow base 9 1 v n xs) : ∃ a c, v = .slice a n c := by
  rcases h.2 with ⟨rfl, h0⟩ | ⟨g, cap, cur, rfl, _⟩
  · subst h0; exact ⟨_, _, rfl⟩
  · exact ⟨_, _, rfl⟩
theorem blk5 {n : Nat} {wr w5 : World} {X : Obj} {o : Obj} (hb : Below (n + 1) (wr.alloc X).drew w5) (hn : n < wr.heap.size) (h : wr.heap[n]? = some o) : w5.heap[n]? = some o := by
  rw [hb.block n (by omega)]
  show (wr.alloc X).heap[n]? = _
  rw [Below.heap_alloc _ _ _ hn]; exact h

set_option maxHeartbeats 4000000 in
set_option maxRecDepth 100000 in
theorem rsplit_any (s : ByteArray) (w : World) (hs : s.size ≤ 1048576) : Calls Tryz.prog 57 #[.string s] w (splitPost s w) := by
  by_cases h0 : s.data.toList = []
  · have h1 : s.toList = [] := by rw [toList_data]; exact h0
    have HF : Hid (splitS s.data.toList = (false, false, [], 3)) := Lib.hid (by rw [splitS, if_pos h0])
    clear h0
    go_enter Tryz.func57, Tryz.ntmps57
    go_wp2
    exact bodyPost_ret (v := .tuple #[.agg #[.bool false, .slice none 0 0, .bool false], .int .i64 3]) (by simp [results, Tryz.results57, go_sem]) rfl (rsplit_zero ((Below.refl _ _).alloc (Nat.le_refl _) _) HF.out)
  have h1 : s.toList.isEmpty = false := by rw [toList_data]; cases hh : s.data.toList with | nil => exact absurd hh h0 | cons => rfl
  have HN := Lib.hid h0
  clear h0
  go_enter Tryz.func57, Tryz.ntmps57
  go_wp2_with fail
  refine (parts_any s _ hs).mono ?_
  rintro e w1 ⟨l, hp, v, rfl, ho, hb⟩
  have HP := Lib.hid hp
  have HO := Lib.hid ho
  obtain ⟨a, cap, rfl, hcells⟩ := Sl.of_own ho
  have hz : (w.alloc Z25).heap.size = w.heap.size + 1 := by simp
  have hsz1 : w.heap.size + 1 ≤ w1.heap.size := by have := hb.size; rw [hz] at this; exact this
  have hcell : w1.heap[w.heap.size]? = some Z25 := by rw [hb.block w.heap.size (by rw [hz]; omega)]; exact at_new _ _
  have HC := Lib.hid hcell
  have HB := Lib.hid (((Below.refl _ _).alloc (Nat.le_refl _) Z25).trans (hb.mono (by rw [hz]; omega)))
  have HS := Lib.hid hcells
  have hs1 : (s.size : Int) ≤ 1048576 := by omega
  have hll : l.length ≤ 1048577 := by
    have h := congrArg List.length hp
    rw [List.length_map] at h
    have h2 := partsA_len s.data.toList []
    unfold parts at h
    rw [sz] at h2; omega
  have hll1 : (l.length : Int) ≤ 1048577 := by omega
  clear hp ho hb hcell hcells hz
  go_wp2
  go_loopw [5, 6] (fun u i wr => ∃ (k q : Nat) (B : Bool), k ≤ l.length ∧ i = .int .i64 k ∧ u = .bool B ∧ (B = true ↔ (128 < s.size ∨ ∃ x ∈ l.take k, 14 < x.size)) ∧ wr = w1.drewN q) (fun u i _ => l.length - (intOf i).toNat)
  case atStart => exact ⟨0, 0, decide ((128 : Int) < s.size), Nat.zero_le _, rfl, rfl, by simp; omega, rfl⟩
  case round =>
    obtain ⟨k, q, B, hk, rfl, rfl, hB, rfl⟩ := hrel
    have HBB := Lib.hid hB
    clear hB
    by_cases hlt : k < l.length
    · have hlt1 : (k : Int) < l.length := by omega
      obtain ⟨b, off, rfl, hc⟩ := HS.out k hlt
      have HX := Lib.hid (show l.take (k + 1) = l.take k ++ [l[k]] by simp)
      generalize l[k] = x at hc HX
      cases B with
      | true =>
        go_wp2
        go_roundw
        case rel => exact ⟨k + 1, q, true, by omega, by go_num, rfl, ⟨fun _ => by
          rcases HBB.out.1 rfl with h | ⟨y, hy, h⟩
          · exact .inl h
          · exact .inr ⟨y, by rw [HX.out]; exact List.mem_append_left _ hy, h⟩, fun _ => rfl⟩, rfl⟩
        case measure => simp [intOf]; omega
      | false =>
        go_wp2
        go_roundw
        case rel =>
          refine ⟨k + 1, q, decide ((14 : Int) < x.size), by omega, by go_num, rfl, ?_, rfl⟩
          have hn : ¬ (128 < s.size ∨ ∃ y ∈ l.take k, 14 < y.size) := fun h => by have := HBB.out.2 h; cases this
          rw [HX.out]
          simp only [decide_eq_true_eq, List.mem_append, List.mem_singleton]
          constructor
          · intro h; exact .inr ⟨x, .inr rfl, by omega⟩
          · rintro (h | ⟨y, hy | rfl, h⟩)
            · exact absurd (.inl h) hn
            · exact absurd (.inr ⟨y, hy, h⟩) hn
            · omega
        case measure => simp [intOf]; omega
    · have hlt1 : ¬ (k : Int) < l.length := by omega
      obtain rfl : k = l.length := by omega
      cases B with
      | true =>
        have HF := Lib.hid (split_long HN.out (by
          rcases HBB.out.1 rfl with h | ⟨y, hy, h⟩
          · exact .inl (by rw [sz]; exact h)
          · refine .inr ⟨y.data.toList, ?_, by rw [sz]; exact h⟩
            rw [HP.out]
            exact List.mem_map_of_mem (List.mem_of_mem_take hy)))
        have hc0 : w1.cell? ⟨w.heap.size, 0, none⟩ = some (.bool false) := heap_cell HC.out 0
        have hc1 : w1.cell? ⟨w.heap.size, 1, none⟩ = some (.slice none 0 0) := heap_cell HC.out 1
        have hc2 : w1.cell? ⟨w.heap.size, 2, none⟩ = some (.bool false) := heap_cell HC.out 2
        have hf0 : w1.frozen? ⟨w.heap.size, 0, none⟩ = false := heap_free HC.out 0
        have hf1 : w1.frozen? ⟨w.heap.size, 1, none⟩ = false := heap_free HC.out 1
        have hf2 : w1.frozen? ⟨w.heap.size, 2, none⟩ = false := heap_free HC.out 2
        go_wp2
        exact leave_zero rfl rfl (show (w1.drewN q).heap[w.heap.size]? = some Z25 from HC.out) (belowN HB.out q) HF.out
      | false =>
        have hnl : ¬ (128 < s.size ∨ ∃ y ∈ l, 14 < y.size) := fun h => by
          have := HBB.out.2 (by rw [List.take_length]; exact h)
          cases this
        have hsh : Short l := fun y hy => by
          have : ¬ 14 < y.size := fun h => hnl (.inr ⟨y, hy, h⟩)
          omega
        have hs8 : s.size ≤ 128 := by
          have : ¬ 128 < s.size := fun h => hnl (.inl h)
          omega
        have HSH := Lib.hid hsh
        clear hnl hsh
        go_wp2
        go_loopw [7] (fun i wr => ∃ (k z : Nat), k ≤ s.size ∧ i = .int .i64 k ∧ plainB (s.data.toList.take k) = true ∧ wr = w1.drewN z) (fun i _ => s.size - (intOf i).toNat)
        case atStart => exact ⟨0, q, Nat.zero_le _, rfl, rfl, rfl⟩
        case round =>
          obtain ⟨k, z, hk, rfl, hpl, rfl⟩ := hrel
          have HPL := Lib.hid hpl
          clear hpl
          by_cases hlt : k < s.size
          · have hlt1 : (k : Int) < s.size := by omega
            by_cases hok : okc s[k] = true
            · have hb1 : ¬ ((s[k].toNat : Int) < 32) := by simp [okc] at hok; omega
              have hb2 : ((s[k].toNat : Int) == 127) = false := by simp [okc] at hok; simp; omega
              have HK := Lib.hid hok
              clear hok
              go_wp2
              go_roundw
              case rel => exact ⟨k + 1, z, by omega, by go_num, by rw [plain_take s k hlt, HPL.out, HK.out]; rfl, rfl⟩
              case measure => simp [intOf]; omega
            · have HF := Lib.hid (split_bad HN.out hs8 HP.out.symm HSH.out (plain_bad s k hlt (by simpa using hok)))
              have hc0 : w1.cell? ⟨w.heap.size, 0, none⟩ = some (.bool false) := heap_cell HC.out 0
              have hc1 : w1.cell? ⟨w.heap.size, 1, none⟩ = some (.slice none 0 0) := heap_cell HC.out 1
              have hc2 : w1.cell? ⟨w.heap.size, 2, none⟩ = some (.bool false) := heap_cell HC.out 2
              have hf0 : w1.frozen? ⟨w.heap.size, 0, none⟩ = false := heap_free HC.out 0
              have hf1 : w1.frozen? ⟨w.heap.size, 1, none⟩ = false := heap_free HC.out 1
              have hf2 : w1.frozen? ⟨w.heap.size, 2, none⟩ = false := heap_free HC.out 2
              by_cases h32 : (s[k].toNat : Int) < 32
              · clear hok
                go_wp2
                exact leave_zero rfl rfl (show (w1.drewN z).heap[w.heap.size]? = some Z25 from HC.out) (belowN HB.out z) HF.out
              · have hb2 : ((s[k].toNat : Int) == 127) = true := by
                  simp [okc] at hok
                  have : s[k].toNat = 127 := by
                    by_cases h : s[k].toNat = 127
                    · exact h
                    · exact absurd h (by simpa using hok (by omega))
                  simp [this]
                clear hok
                go_wp2
                exact leave_zero rfl rfl (show (w1.drewN z).heap[w.heap.size]? = some Z25 from HC.out) (belowN HB.out z) HF.out
          · have hlt1 : ¬ (k : Int) < s.size := by omega
            have hlen0 : 0 < s.size := by
              rcases Nat.eq_zero_or_pos s.size with h | h
              · exact absurd (List.eq_nil_of_length_eq_zero (by rw [sz]; exact h)) HN.out
              · exact h
            have hpa : plainB s.data.toList = true := by rw [← plain_all s k (by omega)]; exact HPL.out
            have HOK := Lib.hid (split_ok HN.out hs8 HP.out.symm HSH.out hpa)
            clear hpa
            have i1 : ((s.size : Int) - 1).toNat = s.size - 1 := by omega
            have i2 : (0 : Int) < s.size := by omega
            have i3 : s.size - 1 < s.size := by omega
            have i4 : IntKind.i64.wrap ((s.size : Int) - 1) = (s.size : Int) - 1 := by rw [IntKind.wrap_i64]; omega
            have i5 : (1 : Int) ≤ s.size := by omega
            have i6 : (s.size : Int) - 1 < s.size := by omega
            have g0 : ∀ i, ((w1.drewN i).alloc (.cells #[.bool false, .slice none 0 0, .bool false] 76)).cell? ⟨w1.heap.size, 0, none⟩ = some (.bool false) := fun i => heap_cell (at_new (w1.drewN i) Z25) 0
            have g1 : ∀ i, ((w1.drewN i).alloc (.cells #[.bool false, .slice none 0 0, .bool false] 76)).cell? ⟨w1.heap.size, 1, none⟩ = some (.slice none 0 0) := fun i => heap_cell (at_new (w1.drewN i) Z25) 1
            have g2 : ∀ i, ((w1.drewN i).alloc (.cells #[.bool false, .slice none 0 0, .bool false] 76)).cell? ⟨w1.heap.size, 2, none⟩ = some (.bool false) := fun i => heap_cell (at_new (w1.drewN i) Z25) 2
            have f0 : ∀ i, ((w1.drewN i).alloc (.cells #[.bool false, .slice none 0 0, .bool false] 76)).frozen? ⟨w1.heap.size, 0, none⟩ = false := fun i => heap_free (at_new (w1.drewN i) Z25) 0
            have f1 : ∀ i, ((w1.drewN i).alloc (.cells #[.bool false, .slice none 0 0, .bool false] 76)).frozen? ⟨w1.heap.size, 1, none⟩ = false := fun i => heap_free (at_new (w1.drewN i) Z25) 1
            have f2 : ∀ i, ((w1.drewN i).alloc (.cells #[.bool false, .slice none 0 0, .bool false] 76)).frozen? ⟨w1.heap.size, 2, none⟩ = false := fun i => heap_free (at_new (w1.drewN i) Z25) 2
            go_wp2_with fail
            go_region
            have HPI := Lib.hid (PI.start w1 (z + 1) ((s[0].toNat : Int) == 47) ((s[s.size - 1].toNat : Int) == 47))
            generalize (((((w1.drewN (z + 1)).alloc (.cells #[.bool false, .slice none 0 0, .bool false] 76)).setCell ⟨w1.heap.size, 0, none⟩ (.bool ((s[0].toNat : Int) == 47))).setCell ⟨w1.heap.size, 1, none⟩ (.slice none 0 0)).setCell ⟨w1.heap.size, 2, none⟩ (.bool ((s[s.size - 1].toNat : Int) == 47))) = W2 at *
            clear g0 g1 g2 f0 f1 f2
            generalize hA : ((s[0].toNat : Int) == 47) = A at *
            generalize hD : ((s[s.size - 1].toNat : Int) == 47) = D at *
            have HA := Lib.hid hA
            have HD := Lib.hid hD
            clear hA hD
            go_upto_if 65 with fail
            go_cut [9] from 53 to 82 (fun u wx => ∃ D' : Bool, D' = (D || (((lastOf l).data.toList == [46]) || ((lastOf l).data.toList == [46, 46]))) ∧ PI w1 A D' (.slice none 0 0) [] wx)
            case first =>
              by_cases hl0 : l = []
              · have hl1 : ¬ ((0 : Int) < l.length) := by rw [hl0]; decide
                have HL0 := Lib.hid hl0
                clear hl0
                go_wp2_with fail
                go_meet
                exact ⟨D, by rw [HL0.out]; simp [lastOf], HPI.out⟩
              · have hl2 : 0 < l.length := List.length_pos_iff.2 hl0
                have hl1 : (0 : Int) < l.length := by omega
                obtain ⟨b, off, rfl, hc⟩ := HS.out (l.length - 1) (by omega)
                have hbl := World.block_lt_of_cell? w1 ⟨b, off + (l.length - 1), none⟩ hc
                have hcw : W2.cell? ⟨b, off + (l.length - 1), none⟩ = some (.string l[l.length - 1]) := by rw [HPI.out.b.cell (p := ⟨b, off + (l.length - 1), none⟩) hbl]; exact hc
                have HL := Lib.hid (show lastOf l = l[l.length - 1] by simp [lastOf, List.getLast?_eq_getElem?, List.getElem?_eq_getElem (show l.length - 1 < l.length by omega)])
                clear hc
                generalize l[l.length - 1] = x at hcw HL
                have i1 : ((l.length : Int) - 1).toNat = l.length - 1 := by omega
                have i4 : IntKind.i64.wrap ((l.length : Int) - 1) = (l.length : Int) - 1 := by rw [IntKind.wrap_i64]; omega
                have i5 : (1 : Int) ≤ l.length := by omega
                have i6 : (l.length : Int) - 1 < l.length := by omega
                have p2 : W2.cell? ⟨w1.heap.size, 2, none⟩ = some (.bool D) := heap_cell HPI.out.p 2
                have q2 : W2.frozen? ⟨w1.heap.size, 2, none⟩ = false := heap_free HPI.out.p 2
                have HX := Lib.hid (toList_data x)
                go_wp2_with fail
                all_goals go_meet
                all_goals refine ⟨_, ?_, HPI.out.setD _⟩
                all_goals (rw [HL.out]; simp only [HX.out] at *; cases D <;> simp_all)
            case rest =>
              obtain ⟨D', hD', hpi⟩ := hcut
              have HD' := Lib.hid hD'
              have HPJ := Lib.hid hpi
              clear hD' hpi
              go_wp2
              go_loopw [10] (fun i wr => ∃ (k : Nat) (v : Value), k ≤ l.length ∧ i = .int .i64 k ∧ PI w1 A D' v (kept (l.take k)) wr) (fun i _ => l.length - (intOf i).toNat)
              case atStart => exact ⟨0, _, Nat.zero_le _, rfl, HPJ.out⟩
              case round =>
                obtain ⟨k2, v2, hk2, rfl, hpk⟩ := hrel
                obtain ⟨a2, c2, rfl, -⟩ := Sl.of_own hpk.n
                have HPK := Lib.hid hpk
                clear hpk
                generalize hkn : (kept (l.take k2)).length = n2 at *
                by_cases hlt2 : k2 < l.length
                · have hlt3 : (k2 : Int) < l.length := by omega
                  obtain ⟨b, off, rfl, hc⟩ := HS.out k2 hlt2
                  have hbl := World.block_lt_of_cell? w1 ⟨b, off + k2, none⟩ hc
                  have hcw : wr.cell? ⟨b, off + k2, none⟩ = some (.string l[k2]) := by rw [HPK.out.b.cell (p := ⟨b, off + k2, none⟩) hbl]; exact hc
                  have HX := Lib.hid (show l.take (k2 + 1) = l.take k2 ++ [l[k2]] by simp)
                  clear hc
                  generalize l[k2] = x at hcw HX
                  by_cases hdot : x.data.toList = [46]
                  · have e1 : x.toList = [46] := by rw [toList_data]; exact hdot
                    have HK := Lib.hid (kept_no (l.take k2) x hdot)
                    clear hdot
                    go_wp2
                    go_roundw
                    case rel => exact ⟨k2 + 1, _, by omega, by go_num, by rw [HX.out, HK.out]; exact HPK.out⟩
                    case measure => simp [intOf]; omega
                  · have e1 : (x.toList == [46]) = false := by rw [toList_data]; simpa using hdot
                    have HK := Lib.hid (kept_yes (l.take k2) x hdot)
                    clear hdot
                    obtain ⟨i0, hi, hz0, hz1, hz4⟩ : ∃ i0, Tryz.prog.info? 9 = some i0 ∧ i0.zero = some (.string ByteArray.empty) ∧ i0.size = 1 ∧ i0.bytes = 16 := by
                      have h := info9
                      cases hh : Tryz.prog.info? 9 with
                      | none => rw [hh] at h; cases h
                      | some i => rw [hh] at h; simp at h; exact ⟨i, rfl, h.1, h.2.1, h.2.2⟩
                    have hplt := HPK.out.lt
                    have hn2 : n2 ≤ 1048577 := by
                      rw [← hkn]
                      have h1 : (kept (l.take k2)).length ≤ (l.take k2).length := List.length_filter_le _ _
                      have h2 : (l.take k2).length ≤ l.length := by rw [List.length_take]; omega
                      omega
                    have e1' : wr.drew.cell? ⟨w1.heap.size, 1, none⟩ = some (.slice a2 n2 c2) := heap_cell (w := wr.drew) HPK.out.p 1
                    have e2' : ∀ X, (wr.alloc X).drew.cell? ⟨w1.heap.size, 1, none⟩ = some (.slice a2 n2 c2) := fun X => heap_cell (w := (wr.alloc X).drew) (by show (wr.alloc X).heap[w1.heap.size]? = _; rw [Below.heap_alloc _ _ _ hplt]; exact HPK.out.p) 1
                    have e3' : wr.drew.cell? ⟨b, off + k2, none⟩ = some (.string x) := hcw
                    have hn9 := HPK.out.n
                    rw [hkn] at hn9
                    have HN9 := Lib.hid hn9
                    clear hn9
                    have HP9 := Lib.hid HPK.out.p
                    have HB9 := Lib.hid HPK.out.b
                    go_wp2_with fail
                    go_region_law (refine step_app_row rfl (.tmp 95) (.tmp 100) 56 rfl (w1.heap.size + 1) 9 i0 (.string ByteArray.empty) 16 Tryz.underlying56 hi hz0 hz1 hz4 rfl (.slice a2 n2 c2) n2 ((kept (l.take k2)).map .string) (by simp [Act.eval, Act.put]) (own_drew (HN9.out.alloc _)) 0 (.slice (some ⟨wr.heap.size, 0, none⟩) 1 1) 1 [.string x] (by simp [Act.eval, Act.put]) (own_drew (own_new wr #[.string x] 0 1 _ rfl (Nat.zero_le _) rfl (by unfold maxLen; omega))) (by simp [Value.oneCell']) (by unfold maxLen; omega) (by omega) (by show w1.heap.size + 1 ≤ (wr.alloc _).heap.size; rw [World.size_alloc]; omega) ?_; intro v5 w5 hown5 hgrow5 hbel5; obtain ⟨a5, c5, rfl⟩ := own_form hown5; have hp5 := blk5 hbel5 hplt HP9.out; have hc5 : w5.cell? ⟨w1.heap.size, 1, none⟩ = some (.slice a2 n2 c2) := heap_cell hp5 1; have hf5 : w5.frozen? ⟨w1.heap.size, 1, none⟩ = false := heap_free hp5 1)
                    all_goals
                      have hPI : PI w1 A D' (.slice a5 (n2 + 1) c5) (kept (l.take k2) ++ [x]) (w5.setCell ⟨w1.heap.size, 1, none⟩ (.slice a5 (n2 + 1) c5)) := {
                        b := (((HB9.out.alloc HB9.out.size _).drew).trans (hbel5.mono (by omega))).setCell (Nat.le_refl _) _
                        p := set_same hp5 _
                        n := by
                          have hl : (kept (l.take k2) ++ [x]).length = n2 + 1 := by rw [List.length_append, hkn]; rfl
                          have hm : (kept (l.take k2) ++ [x]).map Value.string = (kept (l.take k2)).map .string ++ [.string x] := by rw [List.map_append]; rfl
                          rw [hl, hm]; exact own_set hown5 }
                      have HF9 := Lib.hid hPI
                      clear hPI hown5 hgrow5 hbel5 hp5 hc5 hf5
                      go_wp2
                      go_roundw
                      case rel => exact ⟨k2 + 1, _, by omega, by go_num, by rw [HX.out, HK.out]; exact HF9.out⟩
                      case measure => simp [intOf]; omega
                · have hlt3 : ¬ (k2 : Int) < l.length := by omega
                  have r0 : wr.cell? ⟨w1.heap.size, 0, none⟩ = some (.bool A) := heap_cell HPK.out.p 0
                  have r1 : wr.cell? ⟨w1.heap.size, 1, none⟩ = some (.slice a2 n2 c2) := heap_cell HPK.out.p 1
                  have r2 : wr.cell? ⟨w1.heap.size, 2, none⟩ = some (.bool D') := heap_cell HPK.out.p 2
                  have hzw : wr.heap[w.heap.size]? = some Z25 := by rw [HPK.out.b.block w.heap.size (by omega)]; exact HC.out
                  have hc0 : wr.cell? ⟨w.heap.size, 0, none⟩ = some (.bool false) := heap_cell hzw 0
                  have hc1 : wr.cell? ⟨w.heap.size, 1, none⟩ = some (.slice none 0 0) := heap_cell hzw 1
                  have hc2 : wr.cell? ⟨w.heap.size, 2, none⟩ = some (.bool false) := heap_cell hzw 2
                  have hf0 : wr.frozen? ⟨w.heap.size, 0, none⟩ = false := heap_free hzw 0
                  have hf1 : wr.frozen? ⟨w.heap.size, 1, none⟩ = false := heap_free hzw 1
                  have hf2 : wr.frozen? ⟨w.heap.size, 2, none⟩ = false := heap_free hzw 2
                  have HZ := Lib.hid hzw
                  clear hzw
                  go_wp2_with fail
                  exact leave11 w.heap.size rfl rfl (set_same (set_same (set_same HZ.out _) _) _) ⟨a2, n2, c2, rfl⟩ (by
                    have hkl : l.take k2 = l := List.take_of_length_le (by omega)
                    have hn := HPK.out.n
                    rw [hkl] at hn hkn
                    refine ⟨A, D', _, kept l, 0, rfl, ?_, ?_, ?_⟩
                    · rw [hkn] at hn ⊢
                      exact own_base (own_set (own_set (own_set (own_base (b' := w.heap.size + 1) hn (by omega))))) (by omega)
                    · exact (((HB.out.trans (HPK.out.b.mono (by omega))).setCell (Nat.le_refl _) _).setCell (Nat.le_refl _) _).setCell (Nat.le_refl _) _
                    · rw [HOK.out, HD'.out, ← HA.out, ← HD.out, pre_first s (by omega), suffix_last s HN.out, eq47, eq47, data_get s _ (by omega)])
end Go.Proofs.YtmfbmjnoepcigaaGreatDoor.Pp
