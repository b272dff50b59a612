/-
  LoginSwitches's row and card.
-/
import Derived.Test.YtlhlehdajkoogaaGreatDoorAll1
import Derived.Deep.AppendLies
import Derived.Laws.OwnMore
import Derived.Deep.RegionHeld3
import Derived.Deep.CutRange
import Derived.Test.YtlhlehdajkoogaaGreatDoorAll2
import Derived.Maps.AppendAt
import Derived.Lib.ConvBytes
import Derived.Deep.Cut
import Derived.Deep.CutBlock
import Derived.SliceStrings
import Derived.ChangeSlices
import Derived.Carry
import Derived.Deep.Slices
import Derived.Lib.SmallJoins
import Derived.ChangeArms
import Derived.SizedLaws
import Derived.DataReads
import Derived.Test.YtlhlehdajkoogaaGreatDoorRows
import Derived.Test.YtlhlehdajkoogaaGreatDoorAll0
import Derived.Test.YtlhlehdajkoogaaGreatDoorCards
import Derived.Test.YtlhlehdajkoogaaGreatDoorTie
import Derived.WalkKit
import Derived.ProofKit
import Derived.OpenShut
import Derived.ShutString
import Derived.ChangeOld
import Derived.Below
import Derived.Deep.DeepHandedRow
set_option linter.unusedSimpArgs false
set_option linter.unusedVariables false
/- The document's Split of a path. -/
namespace Go.Proofs.Pw.Pp
open Go.RowKit

/-- A slice of strings, as it reads. -/
def Sl (w : World) (v : Value) (l : List ByteArray) : Prop :=
  ∃ a cap, v = .slice a l.length cap ∧ ∀ j (h : j < l.length), ∃ b off, a = some ⟨b, off, none⟩ ∧ w.cell? ⟨b, off + j, none⟩ = some (.string l[j])
theorem Sl.of_own {w : World} {base : Nat} {v : Value} {l : List ByteArray} (h : w.ownsRow base 9 1 v l.length (l.map .string)) : Sl w v l := by
  obtain ⟨_, ⟨rfl, h0⟩ | ⟨g, cap, cur, rfl, hb, hh, hn, hc, hs, ht⟩⟩ := h
  · exact ⟨none, 0, by rw [h0], fun j hj => by omega⟩
  · refine ⟨_, cap, rfl, fun j hj => ⟨g, 0, rfl, ?_⟩⟩
    have h1 : (l.map Value.string)[j]? = some (.string l[j]) := by simp [hj]
    rw [← ht, List.getElem?_take] at h1
    rw [if_pos (by omega)] at h1
    simpa [World.cell?, hh] using h1

def PartsAt (s : ByteArray) (k f : Nat) (l : List ByteArray) : Prop :=
  f ≤ k ∧ parts s.data.toList = l.map (fun x => x.data.toList) ++ partsA (s.data.toList.drop k) ((s.data.toList.take k).drop f).reverse
theorem PartsAt.start (s : ByteArray) : PartsAt s 0 0 [] := ⟨Nat.le_refl _, by simp [parts]⟩
theorem PartsAt.piece {s : ByteArray} {k f : Nat} (hf : f ≤ k) (hk : k ≤ s.size) : ((s.data.toList.take k).drop f = [] ↔ f = k) := by
  rw [List.drop_eq_nil_iff, List.length_take, sz]; omega
theorem PartsAt.go {s : ByteArray} {k f : Nat} {l : List ByteArray} (h : PartsAt s k f l) (hk : k < s.size) (hc : s[k] ≠ 47) : PartsAt s (k + 1) f l := by
  obtain ⟨h1, h2⟩ := h
  refine ⟨by omega, ?_⟩
  have hkl : k < s.data.toList.length := by rw [sz]; exact hk
  have hg : s.data.toList[k] = s[k] := by rw [toList_get, data_get s k hk]
  have hfl : f ≤ (s.data.toList.take k).length := by rw [List.length_take, sz]; omega
  rw [h2, List.drop_eq_getElem_cons hkl, hg, List.take_succ_eq_append_getElem hkl, hg, List.drop_append_of_le_length hfl]
  simp [partsA, hc]
theorem PartsAt.skip {s : ByteArray} {k : Nat} {l : List ByteArray} (h : PartsAt s k k l) (hk : k < s.size) (hc : s[k] = 47) : PartsAt s (k + 1) (k + 1) l := by
  obtain ⟨h1, h2⟩ := h
  refine ⟨by omega, ?_⟩
  have hkl : k < s.data.toList.length := by rw [sz]; exact hk
  have hg : s.data.toList[k] = s[k] := by rw [toList_get, data_get s k hk]
  have e1 : (s.data.toList.take k).drop k = [] := (PartsAt.piece (Nat.le_refl _) (by omega)).2 rfl
  have e2 : (s.data.toList.take (k + 1)).drop (k + 1) = [] := (PartsAt.piece (Nat.le_refl _) (by omega)).2 rfl
  rw [h2, List.drop_eq_getElem_cons hkl, hg, hc, e1, e2]
  simp [partsA]
theorem PartsAt.add {s : ByteArray} {k f : Nat} {l : List ByteArray} (h : PartsAt s k f l) (hk : k < s.size) (hc : s[k] = 47) (hf : f < k) : PartsAt s (k + 1) (k + 1) (l ++ [s.extract f k]) := by
  obtain ⟨h1, h2⟩ := h
  refine ⟨by omega, ?_⟩
  have hkl : k < s.data.toList.length := by rw [sz]; exact hk
  have hg : s.data.toList[k] = s[k] := by rw [toList_get, data_get s k hk]
  have e1 : ¬ (s.data.toList.take k).drop f = [] := fun e => by have := (PartsAt.piece h1 (by omega)).1 e; omega
  have e2 : (s.data.toList.take (k + 1)).drop (k + 1) = [] := (PartsAt.piece (Nat.le_refl _) (by omega)).2 rfl
  rw [h2, List.drop_eq_getElem_cons hkl, hg, hc, e2, List.map_append]
  simp only [partsA, if_true, List.reverse_eq_nil_iff, e1, if_false, List.map_cons, List.map_nil, List.reverse_nil, List.reverse_reverse, List.append_assoc, List.cons_append, List.nil_append]
  rw [ex_data]
theorem PartsAt.all {s : ByteArray} {l : List ByteArray} (h : PartsAt s s.size s.size l) : parts s.data.toList = l.map (fun x => x.data.toList) := by
  have e : (s.data.toList.take s.size).drop s.size = [] := (PartsAt.piece (Nat.le_refl _) (Nat.le_refl _)).2 rfl
  rw [h.2, e, List.drop_of_length_le (by rw [sz]; exact Nat.le_refl _)]
  simp [partsA]
theorem PartsAt.end {s : ByteArray} {f : Nat} {l : List ByteArray} (h : PartsAt s s.size f l) (hf : f < s.size) : parts s.data.toList = (l ++ [s.extract f s.size]).map (fun x => x.data.toList) := by
  have e : ¬ (s.data.toList.take s.size).drop f = [] := fun e => by have := (PartsAt.piece h.1 (Nat.le_refl _)).1 e; omega
  rw [h.2, List.drop_of_length_le (by rw [sz]; exact Nat.le_refl _)]
  simp only [partsA, List.reverse_eq_nil_iff, e, if_false, List.map_append, List.map_cons, List.map_nil, List.reverse_reverse]
  rw [ex_data]

/-- A new slice of strings. -/
def NewStrs (w : World) (l : List ByteArray) (e : Ending) (w' : World) : Prop :=
  ∃ v, e = .returned v ∧ w'.ownsRow w.heap.size 9 1 v l.length (l.map .string) ∧ Below w.heap.size w w'
def partsPost (s : ByteArray) (w : World) (e : Ending) (w' : World) : Prop := ∃ l, parts s.data.toList = l.map (fun x => x.data.toList) ∧ NewStrs w l e w'

set_option maxHeartbeats 2000000 in
set_option maxRecDepth 100000 in
theorem parts_any (s : ByteArray) (w : World) (hs : s.size ≤ 1048576) : Calls Tryz.prog 181 #[.string s] w (partsPost s w) := by
  obtain ⟨i0, hi, hz0, hz1, hz2⟩ := info_parts info9
  have hs1 : (s.size : Int) ≤ 1048576 := by omega
  go_enter Tryz.func181, Tryz.ntmps181
  go_wp2
  go_loopw [3, 4, 5] (fun o f i wr => ∃ (k f' : Nat) (l : List ByteArray), i = .int .i64 k ∧ f = .int .i64 f' ∧ l.length ≤ k ∧ Below w.heap.size w wr ∧ wr.ownsRow w.heap.size 9 1 o l.length (l.map .string) ∧ ((k ≤ s.size ∧ f' ≤ k ∧ PartsAt s k f' l) ∨ (k = s.size + 1 ∧ f' ≤ k ∧ parts s.data.toList = l.map (fun x => x.data.toList)))) (fun _ _ i _ => s.size + 1 - (intOf i).toNat)
  case atStart => exact ⟨0, 0, [], rfl, rfl, Nat.zero_le _, Below.refl _ _, ⟨rfl, .inl ⟨rfl, rfl⟩⟩, .inl ⟨Nat.zero_le _, Nat.le_refl _, PartsAt.start s⟩⟩
  case round =>
    obtain ⟨k, f, l, rfl, rfl, hl, hb, ho, hr⟩ := hrel
    have HB := Lib.hid hb
    have HO := Lib.hid ho
    clear hb ho
    rcases hr with ⟨hk, hf, hp⟩ | ⟨hk, hf, hp⟩
    · have HP := Lib.hid hp
      clear hp
      by_cases hlt : k < s.size
      · by_cases hc : s[k] = 47
        · have hcb : ((s[k].toNat : Int) == 47) = true := by rw [hc]; rfl
          have HC := Lib.hid hc
          clear hc
          by_cases hfk : f < k
          · have hfk1 : (f : Int) < k := by omega
            go_wp2_with (at_builtin; refine wpList_append_own _ rfl _ _ 22 rfl w.heap.size 9 i0 (.string ByteArray.empty) 1 16 Tryz.underlying22 hi hz0 hz1 hz2 rfl (by decide) _ _ _ rfl (HO.out.alloc _) ⟨wr.heap.size, 0, none⟩ 1 1 [.string (s.extract f k)] rfl rfl (cell_one_new _ _ _) (by simp [Value.oneCell']) (by unfold maxLen; omega) (by omega) (by have := HB.out.size; simp; omega) ?_; intro v' w1 hown' hgrow _)
            have HB1 := Lib.hid (app_below HB.out HO.out _ hgrow)
            have HO1 := Lib.hid hown'
            clear hgrow hown'
            go_wp2
            go_roundw
            case rel => exact ⟨k + 1, k + 1, l ++ [s.extract f k], by go_num, by go_num, by simp; omega, HB1.out, by simpa using HO1.out, .inl ⟨by omega, Nat.le_refl _, HP.out.add hlt HC.out hfk⟩⟩
            case measure => simp [intOf]; omega
          · obtain rfl : f = k := by omega
            go_wp2
            go_roundw
            case rel => exact ⟨f + 1, f + 1, l, by go_num, by go_num, by omega, HB.out, HO.out, .inl ⟨by omega, Nat.le_refl _, HP.out.skip hlt HC.out⟩⟩
            case measure => simp [intOf]; omega
        · have hcb : ((s[k].toNat : Int) == 47) = false := by
            simp; exact fun h => hc (UInt8.toNat_inj.1 (by have e : (47 : UInt8).toNat = 47 := rfl; omega))
          have HC := Lib.hid hc
          clear hc
          go_wp2
          go_roundw
          case rel => exact ⟨k + 1, f, l, by go_num, rfl, by omega, HB.out, HO.out, .inl ⟨by omega, by omega, HP.out.go hlt HC.out⟩⟩
          case measure => simp [intOf]; omega
      · obtain rfl : k = s.size := by omega
        by_cases hfk : f < s.size
        · have hfk1 : (f : Int) < s.size := by omega
          go_wp2_with (at_builtin; refine wpList_append_own _ rfl _ _ 22 rfl w.heap.size 9 i0 (.string ByteArray.empty) 1 16 Tryz.underlying22 hi hz0 hz1 hz2 rfl (by decide) _ _ _ rfl (HO.out.alloc _) ⟨wr.heap.size, 0, none⟩ 1 1 [.string (s.extract f s.size)] rfl rfl (cell_one_new _ _ _) (by simp [Value.oneCell']) (by unfold maxLen; omega) (by omega) (by have := HB.out.size; simp; omega) ?_; intro v' w1 hown' hgrow _)
          have HB1 := Lib.hid (app_below HB.out HO.out _ hgrow)
          have HO1 := Lib.hid hown'
          clear hgrow hown'
          go_wp2
          go_roundw
          case rel => exact ⟨s.size + 1, s.size + 1, l ++ [s.extract f s.size], by go_num, by go_num, by simp; omega, HB1.out, by simpa using HO1.out, .inr ⟨rfl, Nat.le_refl _, HP.out.end hfk⟩⟩
          case measure => simp [intOf]
        · obtain rfl : f = s.size := by omega
          go_wp2
          go_roundw
          case rel => exact ⟨s.size + 1, s.size + 1, l, by go_num, by go_num, by omega, HB.out, HO.out, .inr ⟨rfl, Nat.le_refl _, HP.out.all⟩⟩
          case measure => simp [intOf]
    · subst hk
      have HP := Lib.hid hp
      clear hp
      go_wp2
      go_ret
      exact ⟨l, HP.out, _, rfl, HO.out, HB.out⟩
theorem belowN {n : Nat} {w W : World} (h : Below n w W) (k : Nat) : Below n w (W.drewN k) := h.trans ⟨rfl, rfl, rfl, Nat.le_refl _, fun _ _ => rfl⟩

theorem at_new (w : World) (o : Obj) : (w.alloc o).heap[w.heap.size]? = some o := by
  show (w.heap.push o)[w.heap.size]? = some o
  simp
theorem own_new (w : World) (cs : Array Value) (base n B : Nat) (hB : w.heap.size = B) (hb : base ≤ w.heap.size) (hn : cs.size = n) (hm : n ≤ maxLen) :
    (w.alloc (.cells cs 9)).ownsRow base 9 1 (.slice (some ⟨B, 0, none⟩) n n) n cs.toList :=
  hB ▸ ⟨by simp [hn], .inr ⟨w.heap.size, n, cs, rfl, hb, at_new _ _, Nat.le_refl _, hm, by omega, by rw [List.take_of_length_le (by simp [hn])]⟩⟩
theorem own_drew {w : World} {base n : Nat} {v : Value} {xs : List Value} (h : w.ownsRow base 9 1 v n xs) : w.drew.ownsRow base 9 1 v n xs := own_same h fun _ _ _ h => h
theorem sl_n {w : World} {base n : Nat} {v : Value} {xs : List Value} {l : List ByteArray} (h : w.ownsRow base 9 1 v n xs) (hn : l.length = n) (hx : xs = l.map .string) : Sl w v l := by
  subst hn; subst hx; exact Sl.of_own h
theorem partsA_len : ∀ (l acc : Bytes), (partsA l acc).length ≤ l.length + 1
  | [], acc => by by_cases e : acc = [] <;> simp [partsA, e]
  | c :: l, acc => by
    by_cases hc : c = 47
    · have := partsA_len l []
      by_cases e : acc = []
      · simp only [partsA, hc, e, if_true, List.length_cons]; omega
      · simp only [partsA, hc, e, if_true, if_false, List.length_cons]; omega
    · have := partsA_len l (c :: acc)
      simp only [partsA, hc, if_false, List.length_cons]; omega

theorem run_app_row {P : Program} (w : World) (t ty : TypeId) (base : Nat) (e : TypeId) (i : TypeInfo) (z : Value) (bytes : Nat) (ht : P.underlying t = some (.slice e)) (hi : P.info? e = some i) (hz : i.zero = some z)
    (hsize : i.size = 1) (hby : i.bytes = bytes) (hzs : z.cells.size = 1)
    (v : Value) (n : Nat) (xs : List Value) (hown : w.ownsRow base e 1 v n xs)
    (bu : Nat) (u : Value) (m : Nat) (news : List Value) (hu : w.ownsRow bu e 1 u m news) (h1 : ∀ u ∈ news, u.oneCell' = true)
    (h63 : n + m ≤ maxLen) (hbytes : (n + m) * bytes ≤ 140737488355328) (hbase : base ≤ w.heap.size) :
    ∃ v' w', (Builtin.append_ #[t, t] ty #[v, u]).run P w = .ok v' w' ∧ w'.ownsRow base e 1 v' (n + m) (xs ++ news) ∧ w.grownBy w' v.ownBlock := by
  rcases hu.2 with ⟨rfl, h0⟩ | ⟨g, cap, cur, rfl, hb, hh, hn, hc, hs, htk⟩
  · subst h0
    have hnil : news = [] := List.eq_nil_of_length_eq_zero (by rw [hu.1])
    subst hnil
    exact ⟨v, w, run_append_owned_none (P := P) w base t ty e i 1 ht hi v n xs hown, by simpa using hown, World.grownBy.refl _ _⟩
  · obtain ⟨v', w', hr, h2, h3, _, _⟩ := run_append_own_at (P := P) w base t ty e i z 1 bytes ht hi hz hsize hby hzs (by decide) v n xs hown ⟨g, 0, none⟩ m cap news hu.1 (hu.cells rfl) h1 h63 hbytes hbase
    exact ⟨v', w', hr, h2, h3⟩

theorem step_app_row {P : Program} {w : World} {ops : Array Oper} {o : Oper} {a : Act} {K : Act → World → Prop} {Q : Exit → Act → World → Prop} {E : Prop} (hgd : o.guard = none) (s x : Operand) (t : TypeId)
    (ho : o.op = .call { callee := .builtin .append, args := #[s, x], argTypes := #[t, t] })
    (base : Nat) (e : TypeId) (i : TypeInfo) (z : Value) (bytes : Nat) (ht : P.underlying t = some (.slice e)) (hi : P.info? e = some i) (hz : i.zero = some z)
    (hsize : i.size = 1) (hby : i.bytes = bytes) (hzs : z.cells.size = 1)
    (v : Value) (n : Nat) (xs : List Value) (hs : a.eval s = v) (hown : w.ownsRow base e 1 v n xs)
    (bu : Nat) (u : Value) (m : Nat) (news : List Value) (hx : a.eval x = u) (hu : w.ownsRow bu e 1 u m news) (h1 : ∀ u ∈ news, u.oneCell' = true)
    (h63 : n + m ≤ maxLen) (hbytes : (n + m) * bytes ≤ 140737488355328) (hbase : base ≤ w.heap.size)
    (h : ∀ v' w', w'.ownsRow base e 1 v' (n + m) (xs ++ news) → w.grownBy w' v.ownBlock → Below base w w' → K (a.put o.dst v') w') :
    if Region.wanted o (yielded ops a.tmps) = true then Oper.wp P o a w K Q else E := by
  have hw : Region.wanted o (yielded ops a.tmps) = true := by simp [Region.wanted, hgd]
  rw [if_pos hw]
  obtain ⟨v', w', hr, h2, h3⟩ := run_app_row (P := P) w t o.type base e i z bytes ht hi hz hsize hby hzs v n xs hown bu u m news hu h1 h63 hbytes hbase
  unfold Oper.wp execOp
  simp only [ho, resolve, invoke, builtin, Sem.run_bind, Sem.run_pure, Result.andThen_ok, List.map_toArray, List.map_cons, List.map_nil, hs, hx, hr]
  exact h v' w' h2 h3 ((Below.refl _ _).grown h3 hbase (own_ge hown))
theorem suffix_last (d : ByteArray) (h0 : ¬ d.data.toList = []) : Lib.hasSuffix d.data.toList [47] = decide (d.data[d.size - 1]! = 47) := by
  have hz : 0 < d.size := by rw [← sz]; exact List.length_pos_iff.2 h0
  have hlast : d.data.toList.getLast h0 = d.data[d.size - 1]! := by
    rw [List.getLast_eq_getElem, toList_get]; simp
  rw [Bool.eq_iff_iff, decide_eq_true_eq, ← hlast]
  show List.isSuffixOf [47] d.data.toList = true ↔ _
  rw [List.isSuffixOf_iff_suffix]
  constructor
  · rintro ⟨t, ht⟩
    simp only [← ht, List.getLast_append, List.getLast_singleton]
    simp
  · intro h
    exact ⟨d.data.toList.dropLast, by rw [← h]; exact List.dropLast_concat_getLast h0⟩
abbrev Z25 : Obj := .cells #[.bool false, .slice none 0 0, .bool false] 156
theorem rsplit_zero {s : ByteArray} {w W : World} {err : Int} (hb : Below w.heap.size w W) (hs : splitS s.data.toList = (false, false, [], err)) : splitPost s w (.returned (.tuple #[.agg #[.bool false, .slice none 0 0, .bool false], .int .i64 err])) W :=
  ⟨false, false, .slice none 0 0, [], err, rfl, ⟨rfl, .inl ⟨rfl, rfl⟩⟩, hb, hs⟩

theorem leave11 {T : Array Value} {W : World} (n0 : Nat) {A D : Bool} {V : Value} {E : Int} (hT2 : T[2]? = some (.pointer (some ⟨n0, 0, none⟩))) (hT3 : T[3]? = some (.int .i64 E))
    (hres : W.heap[n0]? = some (.cells #[.bool A, V, .bool D] 156 (0, 0))) {R : Ending → World → Prop} (hV : ∃ a n c, V = .slice a n c)
    (hR : R (.returned (.tuple #[.agg #[.bool A, V, .bool D], .int .i64 E])) W) : bodyPost Tryz.prog Tryz.f151 R .ret { tmps := T, defers := [] } W := by
  obtain ⟨a, n, c, rfl⟩ := hV
  have c0 : W.cell? ⟨n0, 0, none⟩ = some (.bool A) := heap_cell hres 0
  have c1 : W.cell? ⟨n0, 1, none⟩ = some (.slice a n c) := heap_cell hres 1
  have c2 : W.cell? ⟨n0, 2, none⟩ = some (.bool D) := heap_cell hres 2
  exact bodyPost_ret (by simp [results, Tryz.results151, go_sem, hT2, hT3, c0, c1, c2]) rfl hR
/-- The zero value, stored and returned. -/
theorem leave_zero {T : Array Value} {s : ByteArray} {w W : World} {E : Int} (hT2 : T[2]? = some (.pointer (some ⟨w.heap.size, 0, none⟩))) (hT3 : T[3]? = some (.int .i64 E))
    (h : W.heap[w.heap.size]? = some Z25) (hb : Below w.heap.size w W) (hs : splitS s.data.toList = (false, false, [], E)) :
    bodyPost Tryz.prog Tryz.f151 (splitPost s w) .ret { tmps := T, defers := [] }
      (((W.setCell ⟨w.heap.size, 0, none⟩ (.bool false)).setCell ⟨w.heap.size, 1, none⟩ (.slice none 0 0)).setCell ⟨w.heap.size, 2, none⟩ (.bool false)) :=
  leave11 w.heap.size (A := false) (D := false) (V := .slice none 0 0) hT2 hT3 (set_same (set_same (set_same h _) _) _) ⟨none, 0, 0, rfl⟩
    (rsplit_zero (((hb.setCell (Nat.le_refl _) _).setCell (Nat.le_refl _) _).setCell (Nat.le_refl _) _) hs)

/-- The path that is being made: its struct lies in the first block behind w1, the names behind that. -/
structure PI (w1 : World) (A D : Bool) (v : Value) (xs : List ByteArray) (W : World) : Prop where
  b : Below w1.heap.size w1 W
  p : W.heap[w1.heap.size]? = some (.cells #[.bool A, v, .bool D] 156 (0, 0))
  n : W.ownsRow (w1.heap.size + 1) 9 1 v xs.length (xs.map .string)
theorem PI.lt {w1 W : World} {A D : Bool} {v : Value} {xs : List ByteArray} (h : PI w1 A D v xs W) : w1.heap.size < W.heap.size := by
  rcases Nat.lt_or_ge w1.heap.size W.heap.size with h1 | h1
  · exact h1
  · have := h.p; rw [Array.getElem?_eq_none h1] at this; cases this
theorem PI.drewN {w1 W : World} {A D : Bool} {v : Value} {xs : List ByteArray} (h : PI w1 A D v xs W) (z : Nat) : PI w1 A D v xs (W.drewN z) :=
  ⟨belowN h.b z, h.p, own_same h.n fun _ _ _ h => h⟩
theorem PI.start (w1 : World) (z : Nat) (A D : Bool) : PI w1 A D (.slice none 0 0) []
    (((((w1.drewN z).alloc (.cells #[.bool false, .slice none 0 0, .bool false] 156)).setCell ⟨w1.heap.size, 0, none⟩ (.bool A)).setCell ⟨w1.heap.size, 1, none⟩ (.slice none 0 0)).setCell ⟨w1.heap.size, 2, none⟩ (.bool D)) where
  b := ((((belowN (Below.refl _ _) z).alloc (Nat.le_refl _) _).setCell (Nat.le_refl _) _).setCell (Nat.le_refl _) _).setCell (Nat.le_refl _) _
  p := set_same (set_same (set_same (at_new (w1.drewN z) Z25) _) _) _
  n := ⟨rfl, .inl ⟨rfl, rfl⟩⟩
theorem PI.setD {w1 W : World} {A D : Bool} {v : Value} {xs : List ByteArray} (h : PI w1 A D v xs W) (D' : Bool) : PI w1 A D' v xs (W.setCell ⟨w1.heap.size, 2, none⟩ (.bool D')) where
  b := h.b.setCell (Nat.le_refl _) _
  p := set_same h.p _
  n := own_same h.n fun g o hg hh => set_other hh _ (by omega)

theorem eq47 (x : UInt8) : ((x.toNat : Int) == 47) = decide (x = 47) := by
  by_cases h : x = 47
  · subst h; rfl
  · have : ¬ (x.toNat : Int) = 47 := fun e => h (by apply UInt8.toNat_inj.1; show x.toNat = 47; omega)
    simp [h, this]
theorem pre_first (s : ByteArray) (h : 0 < s.size) : Lib.hasPrefix s.data.toList [47] = ((s[0].toNat : Int) == 47) := by
  obtain ⟨⟨L⟩⟩ := s
  cases L with
  | nil => cases h
  | cons x r =>
    rw [eq47]
    show ((47 == x) && true) = decide (x = 47)
    by_cases e : x = 47
    · subst e; rfl
    · have : (47 == x) = false := by simpa using fun h => e h.symm
      simp [e, this]
theorem own_set {w : World} {n i : Nat} {v u : Value} {m : Nat} {xs : List Value} (h : w.ownsRow (n + 1) 9 1 v m xs) : (w.setCell ⟨n, i, none⟩ u).ownsRow (n + 1) 9 1 v m xs :=
  own_same h fun _ _ _ hh => set_other hh _ (by omega)
theorem own_form {w : World} {base n : Nat} {v : Value} {xs : List Value} (h : w.ownsRow base 9 1 v n xs) : ∃ a c, v = .slice a n c := by
  rcases h.2 with ⟨rfl, h0⟩ | ⟨g, cap, cur, rfl, _⟩
  · subst h0; exact ⟨_, _, rfl⟩
  · exact ⟨_, _, rfl⟩
theorem blk5 {n : Nat} {wr w5 : World} {X : Obj} {o : Obj} (hb : Below (n + 1) (wr.alloc X).drew w5) (hn : n < wr.heap.size) (h : wr.heap[n]? = some o) : w5.heap[n]? = some o := by
  rw [hb.block n (by omega)]
  show (wr.alloc X).heap[n]? = _
  rw [Below.heap_alloc _ _ _ hn]; exact h

set_option maxHeartbeats 4000000 in
set_option maxRecDepth 100000 in
theorem rsplit_any (s : ByteArray) (w : World) (hs : s.size ≤ 1048576) : Calls Tryz.prog 151 #[.string s] w (splitPost s w) := by
  by_cases h0 : s.data.toList = []
  · have h1 : s.toList = [] := by rw [toList_data]; exact h0
    have HF : Hid (splitS s.data.toList = (false, false, [], 3)) := Lib.hid (by rw [splitS, if_pos h0])
    clear h0
    go_enter Tryz.func151, Tryz.ntmps151
    go_wp2
    exact bodyPost_ret (v := .tuple #[.agg #[.bool false, .slice none 0 0, .bool false], .int .i64 3]) (by simp [results, Tryz.results151, go_sem]) rfl (rsplit_zero ((Below.refl _ _).alloc (Nat.le_refl _) _) HF.out)
  have h1 : s.toList.isEmpty = false := by rw [toList_data]; cases hh : s.data.toList with | nil => exact absurd hh h0 | cons => rfl
  have HN := Lib.hid h0
  clear h0
  go_enter Tryz.func151, Tryz.ntmps151
  go_wp2_with fail
  refine (parts_any s _ hs).mono ?_
  rintro e w1 ⟨l, hp, v, rfl, ho, hb⟩
  have HP := Lib.hid hp
  have HO := Lib.hid ho
  obtain ⟨a, cap, rfl, hcells⟩ := Sl.of_own ho
  have hz : (w.alloc Z25).heap.size = w.heap.size + 1 := by simp
  have hsz1 : w.heap.size + 1 ≤ w1.heap.size := by have := hb.size; rw [hz] at this; exact this
  have hcell : w1.heap[w.heap.size]? = some Z25 := by rw [hb.block w.heap.size (by rw [hz]; omega)]; exact at_new _ _
  have HC := Lib.hid hcell
  have HB := Lib.hid (((Below.refl _ _).alloc (Nat.le_refl _) Z25).trans (hb.mono (by rw [hz]; omega)))
  have HS := Lib.hid hcells
  have hs1 : (s.size : Int) ≤ 1048576 := by omega
  have hll : l.length ≤ 1048577 := by
    have h := congrArg List.length hp
    rw [List.length_map] at h
    have h2 := partsA_len s.data.toList []
    unfold parts at h
    rw [sz] at h2; omega
  have hll1 : (l.length : Int) ≤ 1048577 := by omega
  clear hp ho hb hcell hcells hz
  go_wp2
  go_loopw [5, 6] (fun u i wr => ∃ (k q : Nat) (B : Bool), k ≤ l.length ∧ i = .int .i64 k ∧ u = .bool B ∧ (B = true ↔ (128 < s.size ∨ ∃ x ∈ l.take k, 14 < x.size)) ∧ wr = w1.drewN q) (fun u i _ => l.length - (intOf i).toNat)
  case atStart => exact ⟨0, 0, decide ((128 : Int) < s.size), Nat.zero_le _, rfl, rfl, by simp; omega, rfl⟩
  case round =>
    obtain ⟨k, q, B, hk, rfl, rfl, hB, rfl⟩ := hrel
    have HBB := Lib.hid hB
    clear hB
    by_cases hlt : k < l.length
    · have hlt1 : (k : Int) < l.length := by omega
      obtain ⟨b, off, rfl, hc⟩ := HS.out k hlt
      have HX := Lib.hid (show l.take (k + 1) = l.take k ++ [l[k]] by simp)
      generalize l[k] = x at hc HX
      cases B with
      | true =>
        go_wp2
        go_roundw
        case rel => exact ⟨k + 1, q, true, by omega, by go_num, rfl, ⟨fun _ => by
          rcases HBB.out.1 rfl with h | ⟨y, hy, h⟩
          · exact .inl h
          · exact .inr ⟨y, by rw [HX.out]; exact List.mem_append_left _ hy, h⟩, fun _ => rfl⟩, rfl⟩
        case measure => simp [intOf]; omega
      | false =>
        go_wp2
        go_roundw
        case rel =>
          refine ⟨k + 1, q, decide ((14 : Int) < x.size), by omega, by go_num, rfl, ?_, rfl⟩
          have hn : ¬ (128 < s.size ∨ ∃ y ∈ l.take k, 14 < y.size) := fun h => by have := HBB.out.2 h; cases this
          rw [HX.out]
          simp only [decide_eq_true_eq, List.mem_append, List.mem_singleton]
          constructor
          · intro h; exact .inr ⟨x, .inr rfl, by omega⟩
          · rintro (h | ⟨y, hy | rfl, h⟩)
            · exact absurd (.inl h) hn
            · exact absurd (.inr ⟨y, hy, h⟩) hn
            · omega
        case measure => simp [intOf]; omega
    · have hlt1 : ¬ (k : Int) < l.length := by omega
      obtain rfl : k = l.length := by omega
      cases B with
      | true =>
        have HF := Lib.hid (split_long HN.out (by
          rcases HBB.out.1 rfl with h | ⟨y, hy, h⟩
          · exact .inl (by rw [sz]; exact h)
          · refine .inr ⟨y.data.toList, ?_, by rw [sz]; exact h⟩
            rw [HP.out]
            exact List.mem_map_of_mem (List.mem_of_mem_take hy)))
        have hc0 : w1.cell? ⟨w.heap.size, 0, none⟩ = some (.bool false) := heap_cell HC.out 0
        have hc1 : w1.cell? ⟨w.heap.size, 1, none⟩ = some (.slice none 0 0) := heap_cell HC.out 1
        have hc2 : w1.cell? ⟨w.heap.size, 2, none⟩ = some (.bool false) := heap_cell HC.out 2
        have hf0 : w1.frozen? ⟨w.heap.size, 0, none⟩ = false := heap_free HC.out 0
        have hf1 : w1.frozen? ⟨w.heap.size, 1, none⟩ = false := heap_free HC.out 1
        have hf2 : w1.frozen? ⟨w.heap.size, 2, none⟩ = false := heap_free HC.out 2
        go_wp2
        exact leave_zero rfl rfl (show (w1.drewN q).heap[w.heap.size]? = some Z25 from HC.out) (belowN HB.out q) HF.out
      | false =>
        have hnl : ¬ (128 < s.size ∨ ∃ y ∈ l, 14 < y.size) := fun h => by
          have := HBB.out.2 (by rw [List.take_length]; exact h)
          cases this
        have hsh : Short l := fun y hy => by
          have : ¬ 14 < y.size := fun h => hnl (.inr ⟨y, hy, h⟩)
          omega
        have hs8 : s.size ≤ 128 := by
          have : ¬ 128 < s.size := fun h => hnl (.inl h)
          omega
        have HSH := Lib.hid hsh
        clear hnl hsh
        go_wp2
        go_loopw [7] (fun i wr => ∃ (k z : Nat), k ≤ s.size ∧ i = .int .i64 k ∧ plainB (s.data.toList.take k) = true ∧ wr = w1.drewN z) (fun i _ => s.size - (intOf i).toNat)
        case atStart => exact ⟨0, q, Nat.zero_le _, rfl, rfl, rfl⟩
        case round =>
          obtain ⟨k, z, hk, rfl, hpl, rfl⟩ := hrel
          have HPL := Lib.hid hpl
          clear hpl
          by_cases hlt : k < s.size
          · have hlt1 : (k : Int) < s.size := by omega
            by_cases hok : okc s[k] = true
            · have hb1 : ¬ ((s[k].toNat : Int) < 32) := by simp [okc] at hok; omega
              have hb2 : ((s[k].toNat : Int) == 127) = false := by simp [okc] at hok; simp; omega
              have HK := Lib.hid hok
              clear hok
              go_wp2
              go_roundw
              case rel => exact ⟨k + 1, z, by omega, by go_num, by rw [plain_take s k hlt, HPL.out, HK.out]; rfl, rfl⟩
              case measure => simp [intOf]; omega
            · have HF := Lib.hid (split_bad HN.out hs8 HP.out.symm HSH.out (plain_bad s k hlt (by simpa using hok)))
              have hc0 : w1.cell? ⟨w.heap.size, 0, none⟩ = some (.bool false) := heap_cell HC.out 0
              have hc1 : w1.cell? ⟨w.heap.size, 1, none⟩ = some (.slice none 0 0) := heap_cell HC.out 1
              have hc2 : w1.cell? ⟨w.heap.size, 2, none⟩ = some (.bool false) := heap_cell HC.out 2
              have hf0 : w1.frozen? ⟨w.heap.size, 0, none⟩ = false := heap_free HC.out 0
              have hf1 : w1.frozen? ⟨w.heap.size, 1, none⟩ = false := heap_free HC.out 1
              have hf2 : w1.frozen? ⟨w.heap.size, 2, none⟩ = false := heap_free HC.out 2
              by_cases h32 : (s[k].toNat : Int) < 32
              · clear hok
                go_wp2
                exact leave_zero rfl rfl (show (w1.drewN z).heap[w.heap.size]? = some Z25 from HC.out) (belowN HB.out z) HF.out
              · have hb2 : ((s[k].toNat : Int) == 127) = true := by
                  simp [okc] at hok
                  have : s[k].toNat = 127 := by
                    by_cases h : s[k].toNat = 127
                    · exact h
                    · exact absurd h (by simpa using hok (by omega))
                  simp [this]
                clear hok
                go_wp2
                exact leave_zero rfl rfl (show (w1.drewN z).heap[w.heap.size]? = some Z25 from HC.out) (belowN HB.out z) HF.out
          · have hlt1 : ¬ (k : Int) < s.size := by omega
            have hlen0 : 0 < s.size := by
              rcases Nat.eq_zero_or_pos s.size with h | h
              · exact absurd (List.eq_nil_of_length_eq_zero (by rw [sz]; exact h)) HN.out
              · exact h
            have hpa : plainB s.data.toList = true := by rw [← plain_all s k (by omega)]; exact HPL.out
            have HOK := Lib.hid (split_ok HN.out hs8 HP.out.symm HSH.out hpa)
            clear hpa
            have i1 : ((s.size : Int) - 1).toNat = s.size - 1 := by omega
            have i2 : (0 : Int) < s.size := by omega
            have i3 : s.size - 1 < s.size := by omega
            have i4 : IntKind.i64.wrap ((s.size : Int) - 1) = (s.size : Int) - 1 := by rw [IntKind.wrap_i64]; omega
            have i5 : (1 : Int) ≤ s.size := by omega
            have i6 : (s.size : Int) - 1 < s.size := by omega
            have g0 : ∀ i, ((w1.drewN i).alloc (.cells #[.bool false, .slice none 0 0, .bool false] 156)).cell? ⟨w1.heap.size, 0, none⟩ = some (.bool false) := fun i => heap_cell (at_new (w1.drewN i) Z25) 0
            have g1 : ∀ i, ((w1.drewN i).alloc (.cells #[.bool false, .slice none 0 0, .bool false] 156)).cell? ⟨w1.heap.size, 1, none⟩ = some (.slice none 0 0) := fun i => heap_cell (at_new (w1.drewN i) Z25) 1
            have g2 : ∀ i, ((w1.drewN i).alloc (.cells #[.bool false, .slice none 0 0, .bool false] 156)).cell? ⟨w1.heap.size, 2, none⟩ = some (.bool false) := fun i => heap_cell (at_new (w1.drewN i) Z25) 2
            have f0 : ∀ i, ((w1.drewN i).alloc (.cells #[.bool false, .slice none 0 0, .bool false] 156)).frozen? ⟨w1.heap.size, 0, none⟩ = false := fun i => heap_free (at_new (w1.drewN i) Z25) 0
            have f1 : ∀ i, ((w1.drewN i).alloc (.cells #[.bool false, .slice none 0 0, .bool false] 156)).frozen? ⟨w1.heap.size, 1, none⟩ = false := fun i => heap_free (at_new (w1.drewN i) Z25) 1
            have f2 : ∀ i, ((w1.drewN i).alloc (.cells #[.bool false, .slice none 0 0, .bool false] 156)).frozen? ⟨w1.heap.size, 2, none⟩ = false := fun i => heap_free (at_new (w1.drewN i) Z25) 2
            go_wp2_with fail
            go_region
            have HPI := Lib.hid (PI.start w1 (z + 1) ((s[0].toNat : Int) == 47) ((s[s.size - 1].toNat : Int) == 47))
            generalize (((((w1.drewN (z + 1)).alloc (.cells #[.bool false, .slice none 0 0, .bool false] 156)).setCell ⟨w1.heap.size, 0, none⟩ (.bool ((s[0].toNat : Int) == 47))).setCell ⟨w1.heap.size, 1, none⟩ (.slice none 0 0)).setCell ⟨w1.heap.size, 2, none⟩ (.bool ((s[s.size - 1].toNat : Int) == 47))) = W2 at *
            clear g0 g1 g2 f0 f1 f2
            generalize hA : ((s[0].toNat : Int) == 47) = A at *
            generalize hD : ((s[s.size - 1].toNat : Int) == 47) = D at *
            have HA := Lib.hid hA
            have HD := Lib.hid hD
            clear hA hD
            go_upto_if 65 with fail
            go_cut [9] from 53 to 82 (fun u wx => ∃ D' : Bool, D' = (D || (((lastOf l).data.toList == [46]) || ((lastOf l).data.toList == [46, 46]))) ∧ PI w1 A D' (.slice none 0 0) [] wx)
            case first =>
              by_cases hl0 : l = []
              · have hl1 : ¬ ((0 : Int) < l.length) := by rw [hl0]; decide
                have HL0 := Lib.hid hl0
                clear hl0
                go_wp2_with fail
                go_meet
                exact ⟨D, by rw [HL0.out]; simp [lastOf], HPI.out⟩
              · have hl2 : 0 < l.length := List.length_pos_iff.2 hl0
                have hl1 : (0 : Int) < l.length := by omega
                obtain ⟨b, off, rfl, hc⟩ := HS.out (l.length - 1) (by omega)
                have hbl := World.block_lt_of_cell? w1 ⟨b, off + (l.length - 1), none⟩ hc
                have hcw : W2.cell? ⟨b, off + (l.length - 1), none⟩ = some (.string l[l.length - 1]) := by rw [HPI.out.b.cell (p := ⟨b, off + (l.length - 1), none⟩) hbl]; exact hc
                have HL := Lib.hid (show lastOf l = l[l.length - 1] by simp [lastOf, List.getLast?_eq_getElem?, List.getElem?_eq_getElem (show l.length - 1 < l.length by omega)])
                clear hc
                generalize l[l.length - 1] = x at hcw HL
                have i1 : ((l.length : Int) - 1).toNat = l.length - 1 := by omega
                have i4 : IntKind.i64.wrap ((l.length : Int) - 1) = (l.length : Int) - 1 := by rw [IntKind.wrap_i64]; omega
                have i5 : (1 : Int) ≤ l.length := by omega
                have i6 : (l.length : Int) - 1 < l.length := by omega
                have p2 : W2.cell? ⟨w1.heap.size, 2, none⟩ = some (.bool D) := heap_cell HPI.out.p 2
                have q2 : W2.frozen? ⟨w1.heap.size, 2, none⟩ = false := heap_free HPI.out.p 2
                have HX := Lib.hid (toList_data x)
                go_wp2_with fail
                all_goals go_meet
                all_goals refine ⟨_, ?_, HPI.out.setD _⟩
                all_goals (rw [HL.out]; simp only [HX.out] at *; cases D <;> simp_all)
            case rest =>
              obtain ⟨D', hD', hpi⟩ := hcut
              have HD' := Lib.hid hD'
              have HPJ := Lib.hid hpi
              clear hD' hpi
              go_wp2
              go_loopw [10] (fun i wr => ∃ (k : Nat) (v : Value), k ≤ l.length ∧ i = .int .i64 k ∧ PI w1 A D' v (kept (l.take k)) wr) (fun i _ => l.length - (intOf i).toNat)
              case atStart => exact ⟨0, _, Nat.zero_le _, rfl, HPJ.out⟩
              case round =>
                obtain ⟨k2, v2, hk2, rfl, hpk⟩ := hrel
                obtain ⟨a2, c2, rfl, -⟩ := Sl.of_own hpk.n
                have HPK := Lib.hid hpk
                clear hpk
                generalize hkn : (kept (l.take k2)).length = n2 at *
                by_cases hlt2 : k2 < l.length
                · have hlt3 : (k2 : Int) < l.length := by omega
                  obtain ⟨b, off, rfl, hc⟩ := HS.out k2 hlt2
                  have hbl := World.block_lt_of_cell? w1 ⟨b, off + k2, none⟩ hc
                  have hcw : wr.cell? ⟨b, off + k2, none⟩ = some (.string l[k2]) := by rw [HPK.out.b.cell (p := ⟨b, off + k2, none⟩) hbl]; exact hc
                  have HX := Lib.hid (show l.take (k2 + 1) = l.take k2 ++ [l[k2]] by simp)
                  clear hc
                  generalize l[k2] = x at hcw HX
                  by_cases hdot : x.data.toList = [46]
                  · have e1 : x.toList = [46] := by rw [toList_data]; exact hdot
                    have HK := Lib.hid (kept_no (l.take k2) x hdot)
                    clear hdot
                    go_wp2
                    go_roundw
                    case rel => exact ⟨k2 + 1, _, by omega, by go_num, by rw [HX.out, HK.out]; exact HPK.out⟩
                    case measure => simp [intOf]; omega
                  · have e1 : (x.toList == [46]) = false := by rw [toList_data]; simpa using hdot
                    have HK := Lib.hid (kept_yes (l.take k2) x hdot)
                    clear hdot
                    obtain ⟨i0, hi, hz0, hz1, hz4⟩ : ∃ i0, Tryz.prog.info? 9 = some i0 ∧ i0.zero = some (.string ByteArray.empty) ∧ i0.size = 1 ∧ i0.bytes = 16 := by
                      have h := info9
                      cases hh : Tryz.prog.info? 9 with
                      | none => rw [hh] at h; cases h
                      | some i => rw [hh] at h; simp at h; exact ⟨i, rfl, h.1, h.2.1, h.2.2⟩
                    have hplt := HPK.out.lt
                    have hn2 : n2 ≤ 1048577 := by
                      rw [← hkn]
                      have h1 : (kept (l.take k2)).length ≤ (l.take k2).length := List.length_filter_le _ _
                      have h2 : (l.take k2).length ≤ l.length := by rw [List.length_take]; omega
                      omega
                    have e1' : wr.drew.cell? ⟨w1.heap.size, 1, none⟩ = some (.slice a2 n2 c2) := heap_cell (w := wr.drew) HPK.out.p 1
                    have e2' : ∀ X, (wr.alloc X).drew.cell? ⟨w1.heap.size, 1, none⟩ = some (.slice a2 n2 c2) := fun X => heap_cell (w := (wr.alloc X).drew) (by show (wr.alloc X).heap[w1.heap.size]? = _; rw [Below.heap_alloc _ _ _ hplt]; exact HPK.out.p) 1
                    have e3' : wr.drew.cell? ⟨b, off + k2, none⟩ = some (.string x) := hcw
                    have hn9 := HPK.out.n
                    rw [hkn] at hn9
                    have HN9 := Lib.hid hn9
                    clear hn9
                    have HP9 := Lib.hid HPK.out.p
                    have HB9 := Lib.hid HPK.out.b
                    go_wp2_with fail
                    go_region_law (refine step_app_row rfl (.tmp 95) (.tmp 100) 22 rfl (w1.heap.size + 1) 9 i0 (.string ByteArray.empty) 16 Tryz.underlying22 hi hz0 hz1 hz4 rfl (.slice a2 n2 c2) n2 ((kept (l.take k2)).map .string) (by simp [Act.eval, Act.put]) (own_drew (HN9.out.alloc _)) 0 (.slice (some ⟨wr.heap.size, 0, none⟩) 1 1) 1 [.string x] (by simp [Act.eval, Act.put]) (own_drew (own_new wr #[.string x] 0 1 _ rfl (Nat.zero_le _) rfl (by unfold maxLen; omega))) (by simp [Value.oneCell']) (by unfold maxLen; omega) (by omega) (by show w1.heap.size + 1 ≤ (wr.alloc _).heap.size; rw [World.size_alloc]; omega) ?_; intro v5 w5 hown5 hgrow5 hbel5; obtain ⟨a5, c5, rfl⟩ := own_form hown5; have hp5 := blk5 hbel5 hplt HP9.out; have hc5 : w5.cell? ⟨w1.heap.size, 1, none⟩ = some (.slice a2 n2 c2) := heap_cell hp5 1; have hf5 : w5.frozen? ⟨w1.heap.size, 1, none⟩ = false := heap_free hp5 1)
                    all_goals
                      have hPI : PI w1 A D' (.slice a5 (n2 + 1) c5) (kept (l.take k2) ++ [x]) (w5.setCell ⟨w1.heap.size, 1, none⟩ (.slice a5 (n2 + 1) c5)) := {
                        b := (((HB9.out.alloc HB9.out.size _).drew).trans (hbel5.mono (by omega))).setCell (Nat.le_refl _) _
                        p := set_same hp5 _
                        n := by
                          have hl : (kept (l.take k2) ++ [x]).length = n2 + 1 := by rw [List.length_append, hkn]; rfl
                          have hm : (kept (l.take k2) ++ [x]).map Value.string = (kept (l.take k2)).map .string ++ [.string x] := by rw [List.map_append]; rfl
                          rw [hl, hm]; exact own_set hown5 }
                      have HF9 := Lib.hid hPI
                      clear hPI hown5 hgrow5 hbel5 hp5 hc5 hf5
                      go_wp2
                      go_roundw
                      case rel => exact ⟨k2 + 1, _, by omega, by go_num, by rw [HX.out, HK.out]; exact HF9.out⟩
                      case measure => simp [intOf]; omega
                · have hlt3 : ¬ (k2 : Int) < l.length := by omega
                  have r0 : wr.cell? ⟨w1.heap.size, 0, none⟩ = some (.bool A) := heap_cell HPK.out.p 0
                  have r1 : wr.cell? ⟨w1.heap.size, 1, none⟩ = some (.slice a2 n2 c2) := heap_cell HPK.out.p 1
                  have r2 : wr.cell? ⟨w1.heap.size, 2, none⟩ = some (.bool D') := heap_cell HPK.out.p 2
                  have hzw : wr.heap[w.heap.size]? = some Z25 := by rw [HPK.out.b.block w.heap.size (by omega)]; exact HC.out
                  have hc0 : wr.cell? ⟨w.heap.size, 0, none⟩ = some (.bool false) := heap_cell hzw 0
                  have hc1 : wr.cell? ⟨w.heap.size, 1, none⟩ = some (.slice none 0 0) := heap_cell hzw 1
                  have hc2 : wr.cell? ⟨w.heap.size, 2, none⟩ = some (.bool false) := heap_cell hzw 2
                  have hf0 : wr.frozen? ⟨w.heap.size, 0, none⟩ = false := heap_free hzw 0
                  have hf1 : wr.frozen? ⟨w.heap.size, 1, none⟩ = false := heap_free hzw 1
                  have hf2 : wr.frozen? ⟨w.heap.size, 2, none⟩ = false := heap_free hzw 2
                  have HZ := Lib.hid hzw
                  clear hzw
                  go_wp2_with fail
                  exact leave11 w.heap.size rfl rfl (set_same (set_same (set_same HZ.out _) _) _) ⟨a2, n2, c2, rfl⟩ (by
                    have hkl : l.take k2 = l := List.take_of_length_le (by omega)
                    have hn := HPK.out.n
                    rw [hkl] at hn hkn
                    refine ⟨A, D', _, kept l, 0, rfl, ?_, ?_, ?_⟩
                    · rw [hkn] at hn ⊢
                      exact own_base (own_set (own_set (own_set (own_base (b' := w.heap.size + 1) hn (by omega))))) (by omega)
                    · exact (((HB.out.trans (HPK.out.b.mono (by omega))).setCell (Nat.le_refl _) _).setCell (Nat.le_refl _) _).setCell (Nat.le_refl _) _
                    · rw [HOK.out, HD'.out, ← HA.out, ← HD.out, pre_first s (by omega), suffix_last s HN.out, eq47, eq47, data_get s _ (by omega)])
end Go.Proofs.Pw.Pp
/- The document's place, may. -/
namespace Go.Proofs.Pw
open Go.RowKit

theorem rpass_any (f : ByteArray) (w : World) (hf : f.size ≤ 140737488351232) :
    Calls Tryz.prog 107 #[.string f] w fun e w' => e = .returned (.bool (passB f.data.toList)) ∧ Below w.heap.size w w' := by
  refine (Mx.rright_any f w hf).mono ?_
  rintro e w' ⟨r, rfl, hr, hb⟩
  refine ⟨?_, hb⟩
  have : r = passB f.data.toList := by rw [Bool.eq_iff_iff, hr, passB_of]
  rw [this]
def NoCol (s : ByteArray) (k : Nat) : Prop := ∀ j (h : j < s.size), j < k → s[j] ≠ 58
theorem nocol_all {s : ByteArray} (h : NoCol s s.size) : s.data.toList.contains 58 = false := by
  cases hc : s.data.toList.contains 58 with
  | false => rfl
  | true =>
    exfalso
    have hm : (58 : UInt8) ∈ s.data.toList := List.contains_iff_mem.1 hc
    obtain ⟨j, hj, he⟩ := List.getElem_of_mem hm
    rw [sz] at hj
    exact h j hj (by omega) he
theorem nocol_not {s : ByteArray} {k : Nat} (hk : k < s.size) (h : s[k] = 58) : s.data.toList.contains 58 = true := by
  refine List.contains_iff_mem.2 ?_
  rw [← h]
  exact List.mem_of_getElem? (get_at s k hk)
theorem own_form9 {w : World} {base n : Nat} {v : Value} {xs : List Value} (h : w.ownsRow base 9 1 v n xs) : ∃ a m c, v = .slice a m c := own_form h
set_option maxHeartbeats 2000000 in
set_option maxRecDepth 100000 in
theorem rplace_any (s : ByteArray) (w : World) (hs : s.size ≤ 1048576) :
    Calls Tryz.prog 108 #[.string s] w fun e w' => e = .returned (.bool (placeB s.data.toList)) ∧ Below w.heap.size w w' := by
  have hs1 : (s.size : Int) ≤ 1048576 := by omega
  go_enter Tryz.func108, Tryz.ntmps108
  go_wp2_with fail
  refine (Pp.rsplit_any s _ hs).mono ?_
  rintro e w1 ⟨abs, dir, v, l, err, rfl, hown, hb, hsp⟩
  obtain ⟨sa, sn, sc, rfl⟩ := own_form hown
  have HSP : Hid (placeB s.data.toList = (decide (err = 0) && abs && !s.data.toList.contains 58)) := Lib.hid (by unfold placeB; rw [hsp])
  have hb2 : Below w1.heap.size w1 (w1.alloc (.cells #[.bool abs, .slice sa sn sc, .bool dir] 156)) := (Below.refl _ _).alloc (Nat.le_refl _) _
  have hc0 : (w1.alloc (.cells #[.bool abs, .slice sa sn sc, .bool dir] 156)).cell? ⟨w1.heap.size, 0, none⟩ = some (.bool abs) := by rw [heap_cell (at_new w1 _) 0]; rfl
  have HB := Lib.hid (hb.trans (hb2.mono hb.size))
  have HC0 := Lib.hid hc0
  clear hown hb hsp hb2 hc0 hs
  go_upto_region 2 with fail
  generalize w1.alloc (.cells #[.bool abs, .slice sa sn sc, .bool dir] 156) = w2 at *
  generalize w1.heap.size = n0 at *
  go_wp2
  go_loopw [5] (fun v5 wr => ∃ k : Nat, k ≤ s.size ∧ v5 = .int .i64 k ∧ wr = w2 ∧ Hid (NoCol s k)) (fun v5 _ => s.size - (intOf v5).toNat)
  case atStart => exact ⟨0, Nat.zero_le _, rfl, rfl, Lib.hid fun j _ h => by omega⟩
  case round =>
    obtain ⟨k, hk, rfl, rfl, HH⟩ := hrel
    by_cases hlt : k < s.size
    · have hlt1 : (k : Int) < s.size := by omega
      by_cases hc : s[k] = 58
      · have hc1 : ((s[k].toNat : Int) == 58) = true := by rw [hc]; rfl
        have HX : Hid (placeB s.data.toList = false) := Lib.hid (by rw [HSP.out, nocol_not hlt hc]; simp)
        clear hc
        go_wp2
        go_ret
        exact ⟨by rw [HX.out]; rfl, HB.out⟩
      · have hc1 : ((s[k].toNat : Int) == 58) = false := by
          simp; exact fun h => hc (UInt8.toNat_inj.1 (by have e : (58 : UInt8).toNat = 58 := rfl; omega))
        have HX : Hid (NoCol s (k + 1)) := Lib.hid fun j hj hjk => by
          by_cases he : j = k
          · subst he; exact hc
          · exact HH.out j hj (by omega)
        clear hc
        go_wp2
        go_roundw
        case rel => exact ⟨k + 1, by omega, by go_num, trivial, HX⟩
        case measure => simp [intOf]; omega
    · have hlt1 : ¬ (k : Int) < s.size := by omega
      have hkk : k = s.size := by omega
      have HX : Hid (placeB s.data.toList = (decide (err = 0) && abs)) := Lib.hid (by rw [HSP.out, nocol_all (hkk ▸ HH.out)]; simp)
      clear hkk hlt hk
      have c0 := HC0.out
      by_cases he : err = 0
      · subst he
        go_wp2
        go_ret
        exact ⟨by rw [HX.out]; cases abs <;> rfl, HB.out⟩
      · have he1 : (err == 0) = false := by simpa using he
        have HX2 : Hid (placeB s.data.toList = false) := Lib.hid (by rw [HX.out, decide_eq_false he]; simp)
        clear he
        go_wp2
        go_ret
        exact ⟨by rw [HX2.out]; rfl, HB.out⟩
/-- A user's texts are small enough for the document's Split. -/
structure SzV (u : UserS) : Prop where
  name : u.name.size ≤ 140737488351232
  pass : u.pass.size ≤ 140737488351232
  home : u.home.size ≤ 1048576
  shell : u.shell.size ≤ 1048576
set_option maxHeartbeats 4000000 in
set_option maxRecDepth 100000 in
theorem rmay_any (u : UserS) (w : World) (hu : SzV u) :
    Calls Tryz.prog 66 #[.agg (userC u)] w fun e w' => e = .returned (.bool (mayB u)) ∧ Below w.heap.size w w' := by
  have HU := Lib.hid hu
  clear hu
  have HM : Hid (mayB u = (nameB u.name.data.toList && passB u.pass.data.toList && (decide (0 ≤ u.id) && decide (u.id ≤ 65535)) && (decide (0 ≤ u.group) && decide (u.group ≤ 65535)) && placeB u.home.data.toList && placeB u.shell.data.toList)) := Lib.hid rfl
  have hb0 : Below w.heap.size w (w.alloc (.cells (userC u) 47)) := (Below.refl _ _).alloc (Nat.le_refl _) _
  have hu0 : UC (w.alloc (.cells (userC u) 47)) w.heap.size 0 u := box_six (u := 47) (Below.refl _ _)
  unfold userC at *
  go_enter Tryz.func66, Tryz.ntmps66
  go_upto_region 1 with fail
  generalize w.alloc (.cells #[.string u.name, .string u.pass, .int .i64 u.id, .int .i64 u.group, .string u.home, .string u.shell] 47) = w0 at *
  have HB0 := Lib.hid hb0
  have HC0 := Lib.hid hu0
  obtain ⟨c0, c1, c2, c3, c4, c5⟩ := hu0.at0
  clear hu0 hb0
  go_wp2_with fail
  refine (rname_any u.name _ HU.out.name).mono ?_
  rintro e w1 ⟨rfl, rfl⟩
  go_wp2_with fail
  refine (rpass_any u.pass _ HU.out.pass).mono ?_
  rintro e w2 ⟨rfl, hb⟩
  have HB2 := Lib.hid (HB0.out.trans (hb.mono HB0.out.size))
  have HC2 := Lib.hid (HC0.out.below hb)
  clear hb c0 c1 c2 c3 c4 c5 HC0 HB0
  obtain ⟨c0, c1, c2, c3, c4, c5⟩ := HC2.out.at0
  go_wp2_with fail
  refine (rplace_any u.home _ HU.out.home).mono ?_
  rintro e w3 ⟨rfl, hb⟩
  have HB3 := Lib.hid (HB2.out.trans (hb.mono HB2.out.size))
  have HC3 := Lib.hid (HC2.out.below hb)
  clear hb c0 c1 c2 c3 c4 c5 HC2 HB2
  obtain ⟨c0, c1, c2, c3, c4, c5⟩ := HC3.out.at0
  go_wp2_with fail
  refine (rplace_any u.shell _ HU.out.shell).mono ?_
  rintro e w4 ⟨rfl, hb⟩
  have HB4 := Lib.hid (HB3.out.trans (hb.mono HB3.out.size))
  have HC4 := Lib.hid (HC3.out.below hb)
  clear hb c0 c1 c2 c3 c4 c5 HC3 HB3
  obtain ⟨c0, c1, c2, c3, c4, c5⟩ := HC4.out.at0
  clear HU
  generalize nameB u.name.data.toList = q1 at *
  generalize passB u.pass.data.toList = q2 at *
  generalize placeB u.home.data.toList = q3 at *
  generalize placeB u.shell.data.toList = q4 at *
  by_cases h1 : (0 : Int) ≤ u.id <;> by_cases h2 : u.id ≤ 65535 <;> by_cases h3 : (0 : Int) ≤ u.group <;> by_cases h4 : u.group ≤ 65535
  all_goals first | rw [decide_eq_true h1] at HM | rw [decide_eq_false h1] at HM
  all_goals first | rw [decide_eq_true h2] at HM | rw [decide_eq_false h2] at HM
  all_goals first | rw [decide_eq_true h3] at HM | rw [decide_eq_false h3] at HM
  all_goals first | rw [decide_eq_true h4] at HM | rw [decide_eq_false h4] at HM
  all_goals first | (exfalso; omega) | skip
  all_goals (cases q1 <;> cases q2 <;> cases q3 <;> cases q4)
  all_goals (go_wp2; go_ret; refine ⟨?_, HB4.out⟩; rw [HM.out])
  all_goals first
    | rfl
    | (show Ending.returned (.bool (decide (u.group ≤ 65535))) = _; rw [show decide (u.group ≤ 65535) = true by simp; omega]; rfl)
    | (show Ending.returned (.bool (decide (u.group ≤ 65535))) = _; rw [show decide (u.group ≤ 65535) = false by simp; omega]; rfl)
end Go.Proofs.Pw
/- shown. -/
namespace Go.Proofs.Pw
open Go.RowKit

def rootU : UserS := ⟨⟨#[114, 111, 111, 116]⟩, ⟨#[]⟩, 0, 0, ⟨#[47]⟩, ⟨#[47, 98, 105, 110, 47, 115, 104]⟩⟩
def rootT : ByteArray := ⟨#[114, 111, 111, 116, 58, 58, 48, 58, 48, 58, 47, 58, 47, 98, 105, 110, 47, 115, 104, 10]⟩
def rootS : ByteArray := ⟨#[114, 111, 111, 116, 58, 58, 48, 58, 48, 58, 47, 58, 47, 98, 105, 110, 47, 115, 104]⟩
theorem root_may : mayB rootU = true := by decide +kernel
theorem root_right : RightU [rootU] := ⟨by simp, (fun u hu => by simp at hu; rw [hu]; exact root_may), by simp [namesU]⟩
theorem root_line : lineB rootU = rootS.data.toList := by
  unfold lineB
  rw [show rootU.id.toNat = 0 from rfl, show rootU.group.toNat = 0 from rfl, decD_le (by omega)]
  rfl
theorem root_print : printB [rootU] = rootT.data.toList := by
  rw [printB_cons, printB_nil, root_line]
  rfl
theorem root_parse : parseR rootT.data.toList = ([rootU], 0, 0) := by
  refine parse_ok (by decide) ?_
  rw [← root_print]
  exact parse_of root_right 1
theorem root_last : parseR rootS.data.toList = ([], 1, 17) := parse_err (by decide) (parseL_last (by decide) (by decide))
theorem OwnU.first {w : World} {B : Nat} {v : Value} {u : UserS} {L : List UserS} (h : OwnU w B v (u :: L)) : ∃ g c, v = .slice (some ⟨g, 0, none⟩) (u :: L).length c ∧ UC w g 0 u := by
  have hI := own_inU h
  obtain ⟨_, ⟨_, h0⟩ | ⟨g, cap, cur, rfl, rest⟩⟩ := h
  · simp at h0
  · refine ⟨g, cap, rfl, ?_⟩
    obtain ⟨b, off, hb, hu⟩ := hI.uc (Below.refl _ _) (k := 0) (by simp)
    simp at hb
    obtain ⟨rfl, rfl⟩ := hb
    simpa using hu
end Go.Proofs.Pw
/- What Parse answers, plain. -/
namespace Go.Proofs.Pw
open Go.RowKit

theorem parseL_err : ∀ (k : Nat) (t : Bytes) (L : List UserS) (n m : Nat) (e : Int), t.length ≤ k → parseL L n t = .error (m, e) → n ≤ m ∧ (e = 17 ∨ e = 5 ∨ e = 12)
  | k, t, L, n, m, e, hk, h => by
    by_cases ht : t = []
    · subst ht; rw [parseL_nil] at h; cases h
    · rw [parseL, dif_neg ht] at h
      cases hr : readO (lineOf t) with
      | none => rw [hr] at h; cases h; exact ⟨Nat.le_refl _, .inl rfl⟩
      | some u =>
        rw [hr] at h
        simp only at h
        split at h
        · cases h; exact ⟨Nat.le_refl _, .inl rfl⟩
        · split at h
          · cases h; exact ⟨Nat.le_refl _, .inr (.inl rfl)⟩
          · split at h
            · cases h; exact ⟨Nat.le_refl _, .inr (.inr rfl)⟩
            · have hlt := restOf_lt ht
              match k, hk with
              | 0, hk => exact absurd (List.length_eq_zero_iff.1 (by omega)) ht
              | k + 1, hk =>
                obtain ⟨h1, h2⟩ := parseL_err k _ _ _ _ _ (by omega) h
                exact ⟨by omega, h2⟩
theorem parse_cases (t : Bytes) : (4096 < t.length ∧ parseR t = ([], 0, 10)) ∨ (∃ n e, 1 ≤ n ∧ (e = 17 ∨ e = 5 ∨ e = 12) ∧ parseR t = ([], n, e)) ∨ (∃ L, t.length ≤ 4096 ∧ parseL [] 1 t = .ok L ∧ parseR t = (L, 0, 0)) := by
  by_cases h : 4096 < t.length
  · exact .inl ⟨h, parse_long h⟩
  · cases hp : parseL [] 1 t with
    | ok L => exact .inr (.inr ⟨L, by omega, rfl, parse_ok h hp⟩)
    | error p =>
      obtain ⟨n, e⟩ := p
      obtain ⟨h1, h2⟩ := parseL_err t.length t [] 1 n e (Nat.le_refl _) hp
      exact .inr (.inl ⟨n, e, h1, h2, parse_err h hp⟩)
theorem may_sz {u : UserS} (h : mayB u = true) : SzU u := by
  have hl := line_len h
  unfold lineB at hl
  simp only [List.length_append, List.length_cons] at hl
  have h1 := sz u.name
  have h2 := sz u.pass
  have h3 := sz u.home
  have h4 := sz u.shell
  exact ⟨by omega, by omega, by omega, by omega⟩
theorem print_of {s : ByteArray} {L : List UserS} (h : RightU L) (hp : printB L = s.data.toList) : printS L = s := by
  unfold printS
  rw [if_pos ((rightB_iff L).2 h), hp]
/-- The text twice. -/
theorem twice_cases {s : ByteArray} {L : List UserS} (h : parseL [] 1 s.data.toList = .ok L) : (s.size = 0 ∧ parseR (s ++ s).data.toList = ([], 0, 0)) ∨ (s.size ≠ 0 ∧ 4096 < 2 * s.size ∧ parseR (s ++ s).data.toList = ([], 0, 10)) ∨ (s.size ≠ 0 ∧ 2 * s.size ≤ 4096 ∧ parseR (s ++ s).data.toList = ([], L.length + 1, 5)) := by
  have e : (s ++ s).data.toList = s.data.toList ++ s.data.toList := by rw [ByteArray.data_append, Array.toList_append]
  have hl : (s.data.toList ++ s.data.toList).length = 2 * s.size := by rw [List.length_append, sz]; omega
  rw [e]
  by_cases h0 : s.size = 0
  · have hn : s.data.toList = [] := List.length_eq_zero_iff.1 (by rw [sz]; exact h0)
    exact .inl ⟨h0, by rw [hn]; exact parse_ok (by simp) (parseL_nil _ _)⟩
  · by_cases h1 : 4096 < 2 * s.size
    · exact .inr (.inl ⟨h0, h1, parse_long (by rw [hl]; exact h1)⟩)
    · refine .inr (.inr ⟨h0, by omega, parse_err (by rw [hl]; exact h1) (parse_twice h fun hh => h0 ?_)⟩)
      rw [← sz, hh]; rfl
end Go.Proofs.Pw
/- A list's beginning. -/
namespace Go.Proofs.Pw
open Go.RowKit

theorem InU.take {w : World} {a : Option Addr} {c : Nat} {L : List UserS} (h : InU w (.slice a L.length c) L) (k : Nat) : InU w (.slice a (L.take k).length c) (L.take k) := by
  obtain ⟨a', c', hv, hc⟩ := h
  obtain ⟨rfl, rfl⟩ : a = a' ∧ c = c' := by simp at hv; exact ⟨hv.1, hv.2⟩
  refine ⟨a, c, rfl, fun j hj => ?_⟩
  have hj2 : j < L.length := by rw [List.length_take] at hj; omega
  obtain ⟨b, off, hb, h⟩ := hc j hj2
  exact ⟨b, off, hb, fun i hi => by rw [h i hi, List.getElem_take]⟩
theorem findU_snoc (p : UserS → Bool) (f : UserS) : ∀ (l : List UserS) (i : Nat), findU p (l ++ [f]) i = if findU p l i < 0 then (if p f = true then ((i + l.length : Nat) : Int) else -1) else findU p l i
  | [], i => by simp [findU]
  | g :: l, i => by
    rw [List.cons_append, findU, findU]
    by_cases hp : p g = true
    · rw [if_pos hp, if_pos hp, if_neg (by omega)]
    · rw [if_neg hp, if_neg hp]
      have := findU_snoc p f l (i + 1)
      have e : ((i : Int) + 1) = ((i + 1 : Nat) : Int) := by omega
      rw [e, this, List.length_cons]
      rw [show i + 1 + l.length = i + (l.length + 1) by omega]
theorem findU_take {p : UserS → Bool} {L : List UserS} {k : Nat} (hk : k < L.length) : findU p (L.take (k + 1)) 0 = if findU p (L.take k) 0 < 0 then (if p L[k] = true then (k : Int) else -1) else findU p (L.take k) 0 := by
  rw [List.take_succ_eq_append_getElem hk]
  have h := findU_snoc p L[k] (L.take k) 0
  rw [show ((0 : Nat) : Int) = 0 from rfl] at h
  rw [h, List.length_take, Nat.min_eq_left (by omega), Nat.zero_add]
theorem findU_lt (p : UserS → Bool) (L : List UserS) : findU p L 0 = -1 ∨ (0 ≤ findU p L 0 ∧ findU p L 0 < L.length) := by
  rcases findU_cases p L with ⟨h, _⟩ | ⟨k, hk, _, _, h⟩
  · exact .inl h
  · rw [h]; exact .inr ⟨by omega, by omega⟩
theorem findU_none' {p : UserS → Bool} {L : List UserS} (h : ∀ f ∈ L, p f = false) : findU p L 0 = -1 := findU_none L 0 h
theorem findU_first {p : UserS → Bool} {L : List UserS} {k : Nat} (hk : k < L.length) (h1 : p L[k] = true) (h2 : ∀ j (hj : j < k), p (L[j]'(by omega)) = false) : findU p L 0 = k := by
  rcases findU_cases p L with ⟨_, h⟩ | ⟨j, hj, h3, h4, h5⟩
  · rw [h _ (List.getElem_mem hk)] at h1; cases h1
  · rw [h5]
    rcases Nat.lt_trichotomy j k with hl | hl | hl
    · rw [h2 j hl] at h3; cases h3
    · rw [hl]
    · rw [h4 k hl] at h1; cases h1
/-- What was found, as the law asks of it. -/
def FoundQ (p : UserS → Bool) (L : List UserS) (u : UserS) (ok : Bool) : Prop := (ok = true ∧ ∃ k : Nat, ∃ h : k < L.length, L[k] = u ∧ findU p L 0 = k) ∨ (ok = false ∧ findU p L 0 = -1)
theorem found_form {p : UserS → Bool} {L : List UserS} {w w' : World} {e : Ending} (h : FoundP p L w e w') : ∃ (u : UserS) (ok : Bool), e = .returned (.tuple #[.agg (userC u), .bool ok]) ∧ Below w.heap.size w w' ∧ FoundQ p L u ok := by
  obtain ⟨hb, ⟨k, hk, h1, h2, rfl⟩ | ⟨h1, rfl⟩⟩ := h
  · exact ⟨_, true, rfl, hb, .inl ⟨rfl, k, hk, rfl, findU_first hk h1 h2⟩⟩
  · exact ⟨_, false, rfl, hb, .inr ⟨rfl, findU_none' h1⟩⟩
end Go.Proofs.Pw
/- The document's Right. -/
namespace Go.Proofs.Pw
open Go.RowKit

set_option maxHeartbeats 4000000 in
set_option maxRecDepth 100000 in
theorem rright_any (v : Value) (L : List UserS) (w : World) (hF : InU w v L) (hn : L.length ≤ 140737488355328) (hS : ∀ u ∈ L, SzV u) :
    Calls Tryz.prog 36 #[v] w fun e w' => e = .returned (.bool (rightB L)) ∧ Below w.heap.size w w' := by
  obtain ⟨a, cap, rfl, hc⟩ := hF
  have HF : Hid (InU w (.slice a L.length cap) L) := Lib.hid ⟨a, cap, rfl, hc⟩
  clear hc
  by_cases h8 : 8 < L.length
  · have h81 : (8 : Int) < L.length := by omega
    have HR : Hid (rightB L = false) := Lib.hid (by unfold rightB; rw [decide_eq_false (by omega)]; rfl)
    have hn1 : (L.length : Int) ≤ 140737488355328 := by omega
    clear hn hS h8
    go_enter Tryz.func36, Tryz.ntmps36
    go_wp2
    go_ret
    exact ⟨by rw [HR.out]; rfl, Below.refl _ _⟩
  · have h81 : ¬ (8 : Int) < L.length := by omega
    have hn1 : (L.length : Int) ≤ 8 := by omega
    have HS := Lib.hid hS
    have HL8 := Lib.hid h8
    clear hn hS h8
    go_enter Tryz.func36, Tryz.ntmps36
    go_wp2
    go_loopw [3, 4, 5] (fun v3 v4 v5 wr => ∃ k : Nat, k ≤ L.length ∧ v3 = .int .i64 k ∧ Hid (Below w.heap.size w wr ∧ SeenR L k)) (fun v3 v4 v5 _ => L.length - (intOf v3).toNat)
    case atStart => exact ⟨0, Nat.zero_le _, rfl, Lib.hid ⟨Below.refl _ _, fun j hj h => absurd h (Nat.not_lt_zero j)⟩⟩
    case round =>
      obtain ⟨k, hk, rfl, HH⟩ := hrel
      by_cases hlt : k < L.length
      · have hlt1 : (k : Int) < L.length := by omega
        obtain ⟨b, off, rfl, hu⟩ := HF.out.uc HH.out.1 hlt
        have HM := Lib.hid (fun W => rmay_any (L[k]'hlt) W (HS.out _ (List.getElem_mem hlt)))
        have HNR := Lib.hid (fun (hm : mayB (L[k]'hlt) = false) => not_right hlt (.inr (.inl hm)))
        have HNX := Lib.hid (fun hm hf => seen_next hlt HH.out.2 (by have := HL8.out; omega) hm hf)
        have HFF : Hid ((∀ j (hj : j < L.length), j < k → isName (L[k]'hlt).name (L[j]'hj) = false) → findU (isName (L[k]'hlt).name) L 0 = k) :=
          Lib.hid fun h => findU_first hlt (by simp [isName]) (fun j hj => h j (by omega) hj)
        have HFN : Hid (∀ j (hj : j < L.length), j < k → isName (L[k]'hlt).name (L[j]'hj) = true → rightB L = false) := Lib.hid fun j hj hjk hp => by
          refine not_right hlt (.inr (.inr fun he => ?_))
          rcases findU_cases (isName (L[k]'hlt).name) L with ⟨h1, _⟩ | ⟨q, hq, h1, h2, h3⟩
          · omega
          · have e : q = k := by omega
            subst e
            have := h2 j hjk
            rw [hp] at this
            cases this
        generalize L[k]'hlt = f at *
        obtain ⟨g0, g1, g2, g3, g4, g5⟩ := hu
        go_wp2_with fail
        refine (HM.out _).mono ?_
        rintro e w1 ⟨rfl, hb⟩
        have HB1 := Lib.hid (HH.out.1.trans (hb.mono HH.out.1.size))
        have HU1 : Hid (UC w1 b (off + k * 6) f) := Lib.hid (UC.below (w := wr) ⟨g0, g1, g2, g3, g4, g5⟩ hb)
        clear hb g0 g1 g2 g3 g4 g5 HM
        cases hm : mayB f with
        | false =>
          have HR := Lib.hid (HNR.out hm)
          clear hm HNR HNX HFF HFN
          go_wp2
          go_ret
          exact ⟨by rw [HR.out]; rfl, HB1.out⟩
        | true =>
          have HNX1 := Lib.hid (HNX.out hm)
          clear hm HNR HNX
          go_wp2
          go_loopw [5] (fun v5 w2 => ∃ q : Nat, q ≤ k ∧ v5 = .int .i64 q ∧ Hid (Below w.heap.size w w2 ∧ UC w2 b (off + k * 6) f ∧ ∀ j (hj : j < L.length), j < q → isName f.name (L[j]'hj) = false)) (fun v5 _ => k - (intOf v5).toNat)
          case atStart => exact ⟨0, Nat.zero_le _, rfl, Lib.hid ⟨HB1.out, HU1.out, fun j hj h => absurd h (Nat.not_lt_zero j)⟩⟩
          case round =>
            obtain ⟨q, hq, rfl, HQ⟩ := hrel
            by_cases hqk : q < k
            · have hqk1 : (q : Int) < k := by omega
              have hql : q < L.length := by omega
              have hql1 : (q : Int) < L.length := by omega
              obtain ⟨b2, off2, hab, hu2⟩ := HF.out.uc HQ.out.1 hql
              simp only [Option.some.injEq, Addr.mk.injEq, and_true] at hab
              obtain ⟨rfl, rfl⟩ := hab
              have HFN1 := Lib.hid (HFN.out q hql hqk)
              have HNQ : Hid (isName f.name (L[q]'hql) = false → ∀ j (hj : j < L.length), j < q + 1 → isName f.name (L[j]'hj) = false) := Lib.hid fun h j hj hjq => by
                by_cases he : j = q
                · subst he; exact h
                · exact HQ.out.2.2 j hj (by omega)
              generalize L[q]'hql = g at *
              obtain ⟨g0, g1, g2, g3, g4, g5⟩ := hu2
              obtain ⟨f0, f1, f2, f3, f4, f5⟩ := HQ.out.2.1
              have he1 : (g.name.toList == f.name.toList) = isName f.name g := eq_text _ _
              clear g1 g2 g3 g4 g5 f1 f2 f3 f4 f5
              cases hp : isName f.name g with
              | true =>
                rw [hp] at he1
                have HR := Lib.hid (HFN1.out hp)
                clear hp
                go_upto_region 12 with fail
                go_quiet (fail)
                go_wp2
                go_ret
                exact ⟨by rw [HR.out]; rfl, drewN_below HQ.out.1 _⟩
              | false =>
                rw [hp] at he1
                have HX := Lib.hid (HNQ.out hp)
                clear hp
                go_upto_region 12 with fail
                go_quiet (fail)
                go_wp2
                go_roundw
                case rel => exact ⟨q + 1, by omega, by go_num, Lib.hid ⟨drewN_below HQ.out.1 _, HQ.out.2.1.below (drewN_below (Below.refl _ _) _), HX.out⟩⟩
                case measure => simp [intOf]; omega
            · have hqk1 : ¬ (q : Int) < k := by omega
              have HSN := Lib.hid (HNX1.out (HFF.out fun j hj hjk => HQ.out.2.2 j hj (by omega)))
              go_wp2
              go_roundw
              case rel => exact ⟨k + 1, by omega, by go_num, Lib.hid ⟨HQ.out.1, HSN.out⟩⟩
              case measure => simp [intOf]; omega
      · have hlt1 : ¬ (k : Int) < L.length := by omega
        have e : k = L.length := by omega
        have HR : Hid (rightB L = true) := Lib.hid (seen_all (by have := HH.out.2; rw [e] at this; exact this))
        go_wp2
        go_ret
        exact ⟨by rw [HR.out]; rfl, HH.out.1⟩
end Go.Proofs.Pw
/- The document's digits, number and Name. -/
namespace Go.Proofs.Pw
open Go.RowKit

theorem conv_one (W : World) (c : UInt8) : (convert 59 9 (.slice (some ⟨W.heap.size, 0, none⟩) 1 1)).run Tryz.prog (W.alloc (Obj.cells #[.int .u8 (c.toNat : Int)] 5)) = .ok (.string ⟨#[c]⟩) (W.alloc (Obj.cells #[.int .u8 (c.toNat : Int)] 5)) :=
  run_convert_bytes_back (P := Tryz.prog) (W.alloc (Obj.cells #[.int .u8 (c.toNat : Int)] 5)) 59 9 5 ⟨W.heap.size, 0, none⟩ 1 [c] Tryz.underlying59 Tryz.underlying5 Tryz.underlying9 (fun j hj => by
    obtain rfl : j = 0 := by simp at hj; exact hj
    exact cell_one_new W (.int .u8 (c.toNat : Int)) 5 0 _ rfl)
/-- What is left of a number, and its last digits. -/
def DigAt (N m : Nat) (S : ByteArray) : Prop := decD N = (if m ≤ 9 then [] else decD (m / 10)) ++ S.data.toList
theorem dig_start (N : Nat) : DigAt N N ⟨#[dch (N % 10)]⟩ := by
  unfold DigAt
  by_cases h : N ≤ 9
  · rw [if_pos h, decD_le h, Nat.mod_eq_of_lt (by omega)]; rfl
  · rw [if_neg h, decD_gt h]
theorem dig_step {N m : Nat} {S : ByteArray} (h : DigAt N m S) (hm : ¬ m ≤ 9) : DigAt N (m / 10) (⟨#[dch (m / 10 % 10)]⟩ ++ S) := by
  unfold DigAt at *
  rw [h, if_neg hm, ByteArray.data_append, Array.toList_append]
  by_cases h9 : m / 10 ≤ 9
  · rw [if_pos h9, decD_le h9, Nat.mod_eq_of_lt (by omega)]; rfl
  · rw [if_neg h9]
    conv => lhs; rw [decD_gt h9]
    simp
theorem dec_small {N : Nat} (h : N ≤ 65535) : (decD N).length ≤ 5 := (decD_facts 4 N (by omega)).2.1
def digS (N : Nat) : ByteArray := ⟨(decD N).toArray⟩
theorem dig_end {N m : Nat} {S : ByteArray} (h : DigAt N m S) (hm : m ≤ 9) : S = digS N := by
  unfold DigAt at h
  rw [if_pos hm, List.nil_append] at h
  exact ba_eq (by rw [← h]; rfl)
theorem dig_size {N m : Nat} {S : ByteArray} (h : DigAt N m S) (hN : N ≤ 65535) : S.size ≤ 5 := by
  have h1 := congrArg List.length h
  rw [List.length_append, sz] at h1
  have := dec_small hN
  omega
theorem dig_facts (m : Nat) : (m : Int).tmod 10 = ((m % 10 : Nat) : Int) ∧ IntKind.u8.wrap (48 + ((m % 10 : Nat) : Int)) = ((dch (m % 10)).toNat : Int) ∧ wrap64 (48 + ((m % 10 : Nat) : Int)) = 48 + ((m % 10 : Nat) : Int) := by
  have hmod : (m : Int).tmod 10 = ((m % 10 : Nat) : Int) := by rw [Int.tmod_eq_emod_of_nonneg (by omega)]; rfl
  have hlt : m % 10 < 10 := Nat.mod_lt _ (by omega)
  have hd : ((dch (m % 10)).toNat : Int) = 48 + ((m % 10 : Nat) : Int) := by rw [dch_nat hlt]; omega
  refine ⟨hmod, by rw [hd, IntKind.wrap_u8]; omega, by unfold wrap64; omega⟩
theorem div_facts {m : Nat} (h : m ≤ 65535) : (m : Int).tdiv 10 = ((m / 10 : Nat) : Int) ∧ wrap64 ((m / 10 : Nat) : Int) = ((m / 10 : Nat) : Int) ∧ m / 10 ≤ 65535 := by
  refine ⟨by rw [Int.tdiv_eq_ediv_of_nonneg (by omega)]; rfl, by unfold wrap64; omega, by omega⟩
set_option maxHeartbeats 2000000 in
set_option maxRecDepth 100000 in
theorem rdigits_any (N : Nat) (w : World) (hN : N ≤ 65535) : Calls Tryz.prog 67 #[.int .i64 N] w fun e w' => e = .returned (.string (digS N)) ∧ Below w.heap.size w w' := by
  have HN := Lib.hid hN
  have hN1 : (N : Int) ≤ 65535 := by omega
  have HS := Lib.hid (dig_start N)
  clear hN
  obtain ⟨hmod, hw8, hw64⟩ := dig_facts N
  generalize dch (N % 10) = c0 at *
  generalize N % 10 = m0 at *
  have hcv := conv_one w c0
  go_enter Tryz.func67, Tryz.ntmps67
  go_wp2
  go_loopw [0, 3] (fun v0 v3 wr => ∃ (m : Nat) (S : ByteArray), v0 = .int .i64 m ∧ v3 = .string S ∧ m ≤ 65535 ∧ Hid (Below w.heap.size w wr ∧ DigAt N m S)) (fun v0 v3 _ => (intOf v0).toNat)
  case atStart => exact ⟨N, ⟨#[c0]⟩, rfl, rfl, HN.out, Lib.hid ⟨(Below.refl _ _).alloc (Nat.le_refl _) _, HS.out⟩⟩
  case round =>
    clear hmod hw8 hw64 hcv
    obtain ⟨m, S, rfl, rfl, hm, HH⟩ := hrel
    by_cases h9 : m ≤ 9
    · have h91 : ¬ (9 : Int) < m := by omega
      have hS := dig_end HH.out.2 h9
      clear h9 hm
      go_wp2
      go_ret
      exact ⟨rfl, HH.out.1⟩
    · have h91 : (9 : Int) < m := by omega
      have HM := Lib.hid hm
      have HS2 := Lib.hid (dig_step HH.out.2 h9)
      have HLQ : Hid (m / 10 < m) := Lib.hid (by omega)
      have hsz : (S.size : Int) ≤ 5 := by have := dig_size HH.out.2 HN.out; omega
      have hm2 := hm
      clear h9
      obtain ⟨hdiv, hw64q, hq⟩ := div_facts hm
      obtain ⟨hmod2, hw82, hw642⟩ := dig_facts (m / 10)
      have HQ := Lib.hid hq
      clear hm hm2 hq
      generalize dch (m / 10 % 10) = c2 at *
      generalize m / 10 % 10 = m2 at *
      generalize m / 10 = q at *
      have hcv2 := conv_one wr c2
      go_wp2
      go_roundw
      case rel => exact ⟨q, _, by rw [hw64q], rfl, HQ.out, Lib.hid ⟨HH.out.1.alloc HH.out.1.size _, HS2.out⟩⟩
      case measure =>
        have hz : (intOf (.int .i64 (wrap64 (q : Int)))).toNat < (intOf (.int .i64 (m : Int))).toNat := by
          rw [hw64q]
          show (q : Int).toNat < (m : Int).toNat
          rw [Int.toNat_natCast, Int.toNat_natCast]
          exact HLQ.out
        exact hz
end Go.Proofs.Pw
/- The document's line. -/
namespace Go.Proofs.Pw
open Go.RowKit

theorem line_cat (u : UserS) : u.name ++ ⟨#[58]⟩ ++ u.pass ++ ⟨#[58]⟩ ++ digS u.id.toNat ++ ⟨#[58]⟩ ++ digS u.group.toNat ++ ⟨#[58]⟩ ++ u.home ++ ⟨#[58]⟩ ++ u.shell = (⟨(lineB u).toArray⟩ : ByteArray) := by
  refine ba_eq ?_
  unfold lineB digS
  simp
set_option maxHeartbeats 8000000 in
set_option maxRecDepth 100000 in
theorem rline_any (u : UserS) (w : World) (h0 : 0 ≤ u.id) (h1 : u.id ≤ 65535) (h2 : 0 ≤ u.group) (h3 : u.group ≤ 65535) (n0 : u.name.size ≤ 1000) (n1 : u.pass.size ≤ 1000) (n2 : u.home.size ≤ 1000) (n3 : u.shell.size ≤ 1000) :
    Calls Tryz.prog 37 #[.agg (userC u)] w fun e w' => e = .returned (.string ⟨(lineB u).toArray⟩) ∧ Below w.heap.size w w' := by
  have hb0 : Below w.heap.size w (w.alloc (.cells (userC u) 47)) := (Below.refl _ _).alloc (Nat.le_refl _) _
  have hu0 : UC (w.alloc (.cells (userC u) 47)) w.heap.size 0 u := box_six (u := 47) (Below.refl _ _)
  have KP : ∀ W', Below (w.alloc (.cells (userC u) 47)).heap.size (w.alloc (.cells (userC u) 47)) W' → (Below (w.alloc (.cells (userC u) 47)).heap.size (w.alloc (.cells (userC u) 47)) W' ∧ W'.cell? ⟨w.heap.size, 0, none⟩ = some (.string u.name) ∧ W'.cell? ⟨w.heap.size, 1, none⟩ = some (.string u.pass) ∧ W'.cell? ⟨w.heap.size, 2, none⟩ = some (.int .i64 u.id) ∧ W'.cell? ⟨w.heap.size, 3, none⟩ = some (.int .i64 u.group) ∧ W'.cell? ⟨w.heap.size, 4, none⟩ = some (.string u.home) ∧ W'.cell? ⟨w.heap.size, 5, none⟩ = some (.string u.shell)) := fun W' hW' => by
    have h := hu0.below hW'
    exact ⟨hW', h.g0, h.g1, h.g2, h.g3, h.g4, h.g5⟩
  obtain ⟨N1, hN1⟩ : ∃ N : Nat, u.id = N := ⟨u.id.toNat, by omega⟩
  obtain ⟨N2, hN2⟩ : ∃ N : Nat, u.group = N := ⟨u.group.toNat, by omega⟩
  have HI : ∀ W', (Calls Tryz.prog 67 #[.int .i64 u.id] W' fun e w' => e = .returned (.string (digS u.id.toNat)) ∧ Below W'.heap.size W' w') ∧ (Calls Tryz.prog 67 #[.int .i64 u.group] W' fun e w' => e = .returned (.string (digS u.group.toNat)) ∧ Below W'.heap.size W' w') := fun W' => by
    rw [hN1, hN2, Int.toNat_natCast, Int.toNat_natCast]
    exact ⟨rdigits_any _ _ (by omega), rdigits_any _ _ (by omega)⟩
  have d1 : (digS u.id.toNat).size ≤ 5 := by
    rw [← sz]; exact dec_small (by omega)
  have d2 : (digS u.group.toNat).size ≤ 5 := by
    rw [← sz]; exact dec_small (by omega)
  have HCAT := Lib.hid (line_cat u)
  have HB0 := Lib.hid hb0
  have HLE := Lib.hid hb0.size
  obtain ⟨c0, c1, c2, c3, c4, c5⟩ := hu0.at0
  clear hu0 hb0 hN1 hN2 h0 h1 h2 h3
  generalize digS u.id.toNat = D1 at *
  generalize digS u.group.toNat = D2 at *
  have m0 : (u.name.size : Int) ≤ 1000 := by omega
  have m1 : (u.pass.size : Int) ≤ 1000 := by omega
  have m2 : (u.home.size : Int) ≤ 1000 := by omega
  have m3 : (u.shell.size : Int) ≤ 1000 := by omega
  have m4 : (D1.size : Int) ≤ 5 := by omega
  have m5 : (D2.size : Int) ≤ 5 := by omega
  have z1 : ¬ 9223372036854775807 < u.name.size + 1 := by omega
  have z2 : ¬ 9223372036854775807 < u.name.size + 1 + u.pass.size := by omega
  have z3 : ¬ 9223372036854775807 < u.name.size + 1 + u.pass.size + 1 := by omega
  have z4 : ¬ 9223372036854775807 < u.name.size + 1 + u.pass.size + 1 + D1.size := by omega
  have z5 : ¬ 9223372036854775807 < u.name.size + 1 + u.pass.size + 1 + D1.size + 1 := by omega
  have z6 : ¬ 9223372036854775807 < u.name.size + 1 + u.pass.size + 1 + D1.size + 1 + D2.size := by omega
  have z7 : ¬ 9223372036854775807 < u.name.size + 1 + u.pass.size + 1 + D1.size + 1 + D2.size + 1 := by omega
  have z8 : ¬ 9223372036854775807 < u.name.size + 1 + u.pass.size + 1 + D1.size + 1 + D2.size + 1 + u.home.size := by omega
  have z9 : ¬ 9223372036854775807 < u.name.size + 1 + u.pass.size + 1 + D1.size + 1 + D2.size + 1 + u.home.size + 1 := by omega
  have z10 : ¬ 9223372036854775807 < u.name.size + 1 + u.pass.size + 1 + D1.size + 1 + D2.size + 1 + u.home.size + 1 + u.shell.size := by omega
  clear m0 m1 m2 m3 m4 m5 n0 n1 n2 n3 d1 d2
  rw [← HCAT.out]
  clear HCAT
  unfold userC at *
  go_enter Tryz.func37, Tryz.ntmps37
  go_upto_region 1 with fail
  generalize w.alloc (.cells #[.string u.name, .string u.pass, .int .i64 u.id, .int .i64 u.group, .string u.home, .string u.shell] 47) = W0 at *
  generalize hn0 : w.heap.size = n0 at *
  refine wp_region_held_drew (S := (fun W' => Below W0.heap.size W0 W' ∧ W'.cell? ⟨n0, 0, none⟩ = some (.string u.name) ∧ W'.cell? ⟨n0, 1, none⟩ = some (.string u.pass) ∧ W'.cell? ⟨n0, 2, none⟩ = some (.int .i64 u.id) ∧ W'.cell? ⟨n0, 3, none⟩ = some (.int .i64 u.group) ∧ W'.cell? ⟨n0, 4, none⟩ = some (.string u.home) ∧ W'.cell? ⟨n0, 5, none⟩ = some (.string u.shell))) (by kernel_rfl) (KP _ (Below.refl _ _).drew) (fun hHeld => ?_)
  refine wpAnyH_take (i := 0) (v := ?_) rfl (by kernel_rfl) (by kernel_rfl) (by kernel_rfl) (fun _ _ _ h => h) (Or.inl ⟨by rfl, ?_⟩) (by assumption) ?_
  rotate_left
  · (intro W hSw; (try dsimp only at hSw); go_simp; try with_reducible rfl)
  try simp only [List.getElem_toArray, List.getElem_cons_zero, List.getElem_cons_succ, Act.put, List.setIfInBounds_toArray, List.set_cons_zero, List.set_cons_succ]
  refine wpAnyH_take (i := 1) (v := ?_) rfl (by kernel_rfl) (by kernel_rfl) (by kernel_rfl) (fun _ _ _ h => h) (Or.inl ⟨by rfl, ?_⟩) (by assumption) ?_
  rotate_left
  · (intro W hSw; (try dsimp only at hSw); go_simp; try with_reducible rfl)
  try simp only [List.getElem_toArray, List.getElem_cons_zero, List.getElem_cons_succ, Act.put, List.setIfInBounds_toArray, List.set_cons_zero, List.set_cons_succ]
  refine wpAnyH_take (i := 2) (v := ?_) rfl (by kernel_rfl) (by kernel_rfl) (by kernel_rfl) (fun _ _ _ h => h) (Or.inl ⟨by rfl, ?_⟩) (by assumption) ?_
  rotate_left
  · (intro W hSw; (try dsimp only at hSw); go_simp; try with_reducible rfl)
  try simp only [List.getElem_toArray, List.getElem_cons_zero, List.getElem_cons_succ, Act.put, List.setIfInBounds_toArray, List.set_cons_zero, List.set_cons_succ]
  refine wpAnyH_take (i := 3) (v := ?_) rfl (by kernel_rfl) (by kernel_rfl) (by kernel_rfl) (fun _ _ _ h => h) (Or.inl ⟨by rfl, ?_⟩) (by assumption) ?_
  rotate_left
  · (intro W hSw; (try dsimp only at hSw); go_simp; try with_reducible rfl)
  try simp only [List.getElem_toArray, List.getElem_cons_zero, List.getElem_cons_succ, Act.put, List.setIfInBounds_toArray, List.set_cons_zero, List.set_cons_succ]
  refine wpAnyH_take (i := 4) (v := ?_) rfl (by kernel_rfl) (by kernel_rfl) (by kernel_rfl) (fun _ _ _ h => h) (Or.inl ⟨by rfl, ?_⟩) (by assumption) ?_
  rotate_left
  · (intro W hSw; (try dsimp only at hSw); go_simp; try with_reducible rfl)
  try simp only [List.getElem_toArray, List.getElem_cons_zero, List.getElem_cons_succ, Act.put, List.setIfInBounds_toArray, List.set_cons_zero, List.set_cons_succ]
  refine wpAnyH_take (i := 5) (v := ?_) rfl (by kernel_rfl) (by kernel_rfl) (by kernel_rfl) (fun _ _ _ h => h) (Or.inl ⟨by rfl, ?_⟩) (by assumption) ?_
  rotate_left
  · (intro W hSw; (try dsimp only at hSw); go_simp; try with_reducible rfl)
  try simp only [List.getElem_toArray, List.getElem_cons_zero, List.getElem_cons_succ, Act.put, List.setIfInBounds_toArray, List.set_cons_zero, List.set_cons_succ]
  refine wpAnyH_take (i := 6) (v := ?_) rfl (by kernel_rfl) (by kernel_rfl) (by kernel_rfl) (fun _ _ _ h => h) (Or.inl ⟨by rfl, ?_⟩) (by assumption) ?_
  rotate_left
  · (intro W hSw; (try dsimp only at hSw); go_simp; try with_reducible rfl)
  try simp only [List.getElem_toArray, List.getElem_cons_zero, List.getElem_cons_succ, Act.put, List.setIfInBounds_toArray, List.set_cons_zero, List.set_cons_succ]
  refine wpAnyH_take (i := 7) (v := ?_) rfl (by kernel_rfl) (by kernel_rfl) (by kernel_rfl) (fun _ _ _ h => h) (Or.inl ⟨by rfl, ?_⟩) (by assumption) ?_
  rotate_left
  · (intro W hSw; (try dsimp only at hSw); go_simp; try with_reducible rfl)
  try simp only [List.getElem_toArray, List.getElem_cons_zero, List.getElem_cons_succ, Act.put, List.setIfInBounds_toArray, List.set_cons_zero, List.set_cons_succ]
  refine wpAnyH_take (i := 8) (v := ?_) rfl (by kernel_rfl) (by kernel_rfl) (by kernel_rfl) (fun _ _ _ h => h) (Or.inl ⟨by rfl, ?_⟩) (by assumption) ?_
  rotate_left
  · (intro W hSw; (try dsimp only at hSw); go_simp; try with_reducible rfl)
  try simp only [List.getElem_toArray, List.getElem_cons_zero, List.getElem_cons_succ, Act.put, List.setIfInBounds_toArray, List.set_cons_zero, List.set_cons_succ]
  refine wpAnyH_take (i := 12) (v := ?_) rfl (by kernel_rfl) (by kernel_rfl) (by kernel_rfl) (fun _ _ _ h => h) (Or.inl ⟨by rfl, ?_⟩) (by assumption) ?_
  rotate_left
  · (intro W hSw; (try dsimp only at hSw); go_simp; try with_reducible rfl)
  try simp only [List.getElem_toArray, List.getElem_cons_zero, List.getElem_cons_succ, Act.put, List.setIfInBounds_toArray, List.set_cons_zero, List.set_cons_succ]
  refine wpAnyH_take (i := 13) (v := ?_) rfl (by kernel_rfl) (by kernel_rfl) (by kernel_rfl) (fun _ _ _ h => h) (Or.inl ⟨by rfl, ?_⟩) (by assumption) ?_
  rotate_left
  · (intro W hSw; (try dsimp only at hSw); go_simp; try with_reducible rfl)
  try simp only [List.getElem_toArray, List.getElem_cons_zero, List.getElem_cons_succ, Act.put, List.setIfInBounds_toArray, List.set_cons_zero, List.set_cons_succ]
  refine wpAnyH_take (i := 17) (v := ?_) rfl (by kernel_rfl) (by kernel_rfl) (by kernel_rfl) (fun _ _ _ h => h) (Or.inl ⟨by rfl, ?_⟩) (by assumption) ?_
  rotate_left
  · (intro W hSw; (try dsimp only at hSw); go_simp; try with_reducible rfl)
  try simp only [List.getElem_toArray, List.getElem_cons_zero, List.getElem_cons_succ, Act.put, List.setIfInBounds_toArray, List.set_cons_zero, List.set_cons_succ]
  refine wpAnyH_take (i := 18) (v := ?_) rfl (by kernel_rfl) (by kernel_rfl) (by kernel_rfl) (fun _ _ _ h => h) (Or.inl ⟨by rfl, ?_⟩) (by assumption) ?_
  rotate_left
  · (intro W hSw; (try dsimp only at hSw); go_simp; try with_reducible rfl)
  try simp only [List.getElem_toArray, List.getElem_cons_zero, List.getElem_cons_succ, Act.put, List.setIfInBounds_toArray, List.set_cons_zero, List.set_cons_succ]
  refine wpAnyH_take (i := 21) (v := ?_) rfl (by kernel_rfl) (by kernel_rfl) (by kernel_rfl) (fun _ _ _ h => h) (Or.inl ⟨by rfl, ?_⟩) (by assumption) ?_
  rotate_left
  · (intro W hSw; (try dsimp only at hSw); go_simp; try with_reducible rfl)
  try simp only [List.getElem_toArray, List.getElem_cons_zero, List.getElem_cons_succ, Act.put, List.setIfInBounds_toArray, List.set_cons_zero, List.set_cons_succ]
  refine wpAnyH_take (i := 22) (v := ?_) rfl (by kernel_rfl) (by kernel_rfl) (by kernel_rfl) (fun _ _ _ h => h) (Or.inl ⟨by rfl, ?_⟩) (by assumption) ?_
  rotate_left
  · (intro W hSw; (try dsimp only at hSw); go_simp; try with_reducible rfl)
  try simp only [List.getElem_toArray, List.getElem_cons_zero, List.getElem_cons_succ, Act.put, List.setIfInBounds_toArray, List.set_cons_zero, List.set_cons_succ]
  refine wpAnyH_ready (rs := [9]) (by kernel_rfl) (by simp) ?_
  refine AllReadyH.cons rfl (fun K hK => ?_) AllReadyH.nil
  simp only [List.getElem_toArray, List.getElem_cons_zero, List.getElem_cons_succ]
  go_simp
  go_at_call 67
  refine ((HI _).1).mono ?_
  rintro e w1 ⟨rfl, hb⟩
  have hbzw1 : Below W0.heap.size W0 w1 := hHeld.1.trans (hb.mono hHeld.1.size)
  clear hb
  refine hK.out _ _ ?_ (fun hHeld => ?_)
  · (try dsimp only); exact KP _ hbzw1
  clear hK K
  try simp only [List.getElem_toArray, List.getElem_cons_zero, List.getElem_cons_succ, Act.put, List.setIfInBounds_toArray, List.set_cons_zero, List.set_cons_succ]
  refine wpAnyH_take (i := 10) (v := ?_) rfl (by kernel_rfl) (by kernel_rfl) (by kernel_rfl) (fun _ _ _ h => h) (Or.inl ⟨by rfl, ?_⟩) (by assumption) ?_
  rotate_left
  · (intro W hSw; (try dsimp only at hSw); go_simp; try with_reducible rfl)
  try simp only [List.getElem_toArray, List.getElem_cons_zero, List.getElem_cons_succ, Act.put, List.setIfInBounds_toArray, List.set_cons_zero, List.set_cons_succ]
  refine wpAnyH_take (i := 11) (v := ?_) rfl (by kernel_rfl) (by kernel_rfl) (by kernel_rfl) (fun _ _ _ h => h) (Or.inl ⟨by rfl, ?_⟩) (by assumption) ?_
  rotate_left
  · (intro W hSw; (try dsimp only at hSw); go_simp; try with_reducible rfl)
  try simp only [List.getElem_toArray, List.getElem_cons_zero, List.getElem_cons_succ, Act.put, List.setIfInBounds_toArray, List.set_cons_zero, List.set_cons_succ]
  refine wpAnyH_ready (rs := [14]) (by kernel_rfl) (by simp) ?_
  refine AllReadyH.cons rfl (fun K hK => ?_) AllReadyH.nil
  simp only [List.getElem_toArray, List.getElem_cons_zero, List.getElem_cons_succ]
  go_simp
  go_at_call 67
  refine ((HI _).2).mono ?_
  rintro e w2 ⟨rfl, hb⟩
  have hbzw2 : Below W0.heap.size W0 w2 := hHeld.1.trans (hb.mono hHeld.1.size)
  clear hb
  refine hK.out _ _ ?_ (fun hHeld => ?_)
  · (try dsimp only); exact KP _ hbzw2
  clear hK K
  try simp only [List.getElem_toArray, List.getElem_cons_zero, List.getElem_cons_succ, Act.put, List.setIfInBounds_toArray, List.set_cons_zero, List.set_cons_succ]
  refine wpAnyH_take (i := 15) (v := ?_) rfl (by kernel_rfl) (by kernel_rfl) (by kernel_rfl) (fun _ _ _ h => h) (Or.inl ⟨by rfl, ?_⟩) (by assumption) ?_
  rotate_left
  · (intro W hSw; (try dsimp only at hSw); go_simp; try with_reducible rfl)
  try simp only [List.getElem_toArray, List.getElem_cons_zero, List.getElem_cons_succ, Act.put, List.setIfInBounds_toArray, List.set_cons_zero, List.set_cons_succ]
  refine wpAnyH_take (i := 16) (v := ?_) rfl (by kernel_rfl) (by kernel_rfl) (by kernel_rfl) (fun _ _ _ h => h) (Or.inl ⟨by rfl, ?_⟩) (by assumption) ?_
  rotate_left
  · (intro W hSw; (try dsimp only at hSw); go_simp; try with_reducible rfl)
  try simp only [List.getElem_toArray, List.getElem_cons_zero, List.getElem_cons_succ, Act.put, List.setIfInBounds_toArray, List.set_cons_zero, List.set_cons_succ]
  refine wpAnyH_take (i := 19) (v := ?_) rfl (by kernel_rfl) (by kernel_rfl) (by kernel_rfl) (fun _ _ _ h => h) (Or.inl ⟨by rfl, ?_⟩) (by assumption) ?_
  rotate_left
  · (intro W hSw; (try dsimp only at hSw); go_simp; try with_reducible rfl)
  try simp only [List.getElem_toArray, List.getElem_cons_zero, List.getElem_cons_succ, Act.put, List.setIfInBounds_toArray, List.set_cons_zero, List.set_cons_succ]
  refine wpAnyH_take (i := 20) (v := ?_) rfl (by kernel_rfl) (by kernel_rfl) (by kernel_rfl) (fun _ _ _ h => h) (Or.inl ⟨by rfl, ?_⟩) (by assumption) ?_
  rotate_left
  · (intro W hSw; (try dsimp only at hSw); go_simp; try with_reducible rfl)
  try simp only [List.getElem_toArray, List.getElem_cons_zero, List.getElem_cons_succ, Act.put, List.setIfInBounds_toArray, List.set_cons_zero, List.set_cons_succ]
  refine wpAnyH_take (i := 23) (v := ?_) rfl (by kernel_rfl) (by kernel_rfl) (by kernel_rfl) (fun _ _ _ h => h) (Or.inl ⟨by rfl, ?_⟩) (by assumption) ?_
  rotate_left
  · (intro W hSw; (try dsimp only at hSw); go_simp; try with_reducible rfl)
  try simp only [List.getElem_toArray, List.getElem_cons_zero, List.getElem_cons_succ, Act.put, List.setIfInBounds_toArray, List.set_cons_zero, List.set_cons_succ]
  refine wpAnyH_take (i := 24) (v := ?_) rfl (by kernel_rfl) (by kernel_rfl) (by kernel_rfl) (fun _ _ _ h => h) (Or.inl ⟨by rfl, ?_⟩) (by assumption) ?_
  rotate_left
  · (intro W hSw; (try dsimp only at hSw); go_simp; try with_reducible rfl)
  try simp only [List.getElem_toArray, List.getElem_cons_zero, List.getElem_cons_succ, Act.put, List.setIfInBounds_toArray, List.set_cons_zero, List.set_cons_succ]
  refine wpAnyH_done (by kernel_rfl) ?_ _
  have HB := Lib.hid (HB0.out.trans (hbzw2.mono HLE.out))
  clear hbzw1 hbzw2 hHeld KP HI
  go_wp2
  go_ret
  exact ⟨rfl, by rw [hn0]; exact HB.out⟩
end Go.Proofs.Pw
/- The document's Print. -/
namespace Go.Proofs.Pw
open Go.RowKit

theorem print_cat {L : List UserS} {k : Nat} (hk : k < L.length) : (⟨(printB (L.take k)).toArray⟩ : ByteArray) ++ ⟨(lineB L[k]).toArray⟩ ++ ⟨#[10]⟩ = ⟨(printB (L.take (k + 1))).toArray⟩ := by
  refine ba_eq ?_
  rw [print_take hk]
  simp
theorem line_parts {u : UserS} (h : (lineB u).length ≤ 300) : u.name.size ≤ 1000 ∧ u.pass.size ≤ 1000 ∧ u.home.size ≤ 1000 ∧ u.shell.size ≤ 1000 := by
  unfold lineB at h
  simp only [List.length_append, List.length_cons, sz] at h
  omega
set_option maxHeartbeats 4000000 in
set_option maxRecDepth 100000 in
theorem rprint_any (v : Value) (L : List UserS) (w : World) (hF : InU w v L) (hn : L.length ≤ 140737488355328) (hS : ∀ u ∈ L, SzV u) :
    Calls Tryz.prog 17 #[v] w fun e w' => e = .returned (.string (printS L)) ∧ Below w.heap.size w w' := by
  have HR := Lib.hid (rright_any v L w hF hn hS)
  obtain ⟨a, cap, rfl, hc⟩ := hF
  have HF : Hid (InU w (.slice a L.length cap) L) := Lib.hid ⟨a, cap, rfl, hc⟩
  clear hc hS
  have hn1 : (L.length : Int) ≤ 140737488355328 := by omega
  clear hn
  cases hr : rightB L with
  | false =>
    have HP : Hid (printS L = ⟨#[]⟩) := Lib.hid (by unfold printS; rw [hr]; rfl)
    rw [hr] at HR
    clear hr
    go_enter Tryz.func17, Tryz.ntmps17
    go_wp2_with fail
    refine HR.out.mono ?_
    rintro e w1 ⟨rfl, hb⟩
    have HB := Lib.hid hb
    clear hb
    go_wp2
    go_ret
    exact ⟨by rw [HP.out]; rfl, HB.out⟩
  | true =>
    have HP : Hid (printS L = ⟨(printB L).toArray⟩) := Lib.hid (by unfold printS; rw [if_pos hr])
    have HRU := Lib.hid ((rightB_iff L).1 hr)
    rw [hr] at HR
    clear hr
    go_enter Tryz.func17, Tryz.ntmps17
    go_wp2_with fail
    refine HR.out.mono ?_
    rintro e w1 ⟨rfl, hb⟩
    have HB := Lib.hid hb
    clear hb
    go_wp2
    go_loopw [4, 5] (fun v4 v5 wr => ∃ (k : Nat) (t : ByteArray), k ≤ L.length ∧ v5 = .int .i64 k ∧ v4 = .string t ∧ t.size ≤ 2408 ∧ Hid (Below w.heap.size w wr ∧ t = ⟨(printB (L.take k)).toArray⟩)) (fun v4 v5 _ => L.length - (intOf v5).toNat)
    case atStart => exact ⟨0, ⟨#[]⟩, Nat.zero_le _, rfl, rfl, by decide, Lib.hid ⟨HB.out, rfl⟩⟩
    case round =>
      obtain ⟨k, t, hk, rfl, rfl, ht, HH⟩ := hrel
      by_cases hlt : k < L.length
      · have hlt1 : (k : Int) < L.length := by omega
        obtain ⟨b, off, rfl, hu⟩ := HF.out.uc HH.out.1 hlt
        have hm := HRU.out.may _ (List.getElem_mem hlt)
        have hcat := print_cat hlt
        rw [← HH.out.2] at hcat
        have hpl : (printB (L.take (k + 1))).length ≤ 301 * 8 := by
          have h1 := print_len (L.take (k + 1)) (fun u hu => HRU.out.may u (List.mem_of_mem_take hu))
          have h2 := HRU.out.len
          simp only [List.length_take] at h1
          omega
        have HPL := Lib.hid hpl
        generalize L[k]'hlt = f at *
        have hll := line_len hm
        have hmp := mayP hm
        obtain ⟨n0, n1, n2, n3⟩ := line_parts hll
        have HLN := Lib.hid (fun W => rline_any f W hmp.id0 hmp.id1 hmp.g0 hmp.g1 n0 n1 n2 n3)
        obtain ⟨R, hR⟩ : ∃ R : ByteArray, ⟨(lineB f).toArray⟩ = R := ⟨_, rfl⟩
        rw [hR] at HLN hcat
        have hRs : R.size ≤ 300 := by rw [← hR, ← sz]; exact hll
        have HCAT := Lib.hid hcat
        have ht1 : (t.size : Int) ≤ 2408 := by omega
        have hRs1 : (R.size : Int) ≤ 300 := by omega
        obtain ⟨g0, g1, g2, g3, g4, g5⟩ := hu
        clear hm hcat hll hmp n0 n1 n2 n3 hR hpl
        go_wp2_with fail
        refine (HLN.out _).mono ?_
        rintro e w5 ⟨rfl, hb⟩
        have HB5 := Lib.hid (HH.out.1.trans (hb.mono HH.out.1.size))
        clear hb g0 g1 g2 g3 g4 g5 HLN
        go_wp2
        go_roundw
        case rel => exact ⟨k + 1, t ++ R ++ ⟨#[10]⟩, by omega, by go_num, rfl, by rw [HCAT.out, ← sz]; have := HPL.out; exact this, Lib.hid ⟨HB5.out, HCAT.out⟩⟩
        case measure => simp [intOf]; omega
      · have hlt1 : ¬ (k : Int) < L.length := by omega
        have HT : Hid (printS L = t) := Lib.hid (by
          rw [HP.out, HH.out.2, show k = L.length by omega, List.take_length])
        go_wp2
        go_ret
        exact ⟨by rw [HT.out]; rfl, HH.out.1⟩
end Go.Proofs.Pw
/- The document's Change. -/
namespace Go.Proofs.Pw
open Go.RowKit

theorem InU.none_nil {w : World} {c : Nat} {L : List UserS} (h : InU w (.slice none L.length c) L) : L = [] := by
  cases L with
  | nil => rfl
  | cons u L =>
    obtain ⟨b, off, hb, _⟩ := h.uc (Below.refl _ _) (k := 0) (by simp)
    cases hb
set_option maxHeartbeats 2000000 in
set_option maxRecDepth 100000 in
theorem rchange_any (v : Value) (L : List UserS) (x p : ByteArray) (w : World) (hF : InU w v L) (hn : L.length ≤ 1000) :
    Calls Tryz.prog 105 #[v, .string x, .string p] w (ChangeP x p L w) := by
  obtain ⟨a, cap, rfl, hc⟩ := hF
  have HF : Hid (InU w (.slice a L.length cap) L) := Lib.hid ⟨a, cap, rfl, hc⟩
  clear hc
  have HN := Lib.hid hn
  clear hn
  obtain ⟨i0, hi, hz0, hz1, hz4⟩ := info_parts info33
  go_enter Tryz.func105, Tryz.ntmps105
  go_upto_region 1 with fail
  go_cut [8] from 10 to 13 (fun v8 wx => Below w.heap.size w wx ∧ OwnU wx w.heap.size v8 L)
  case first =>
    cases a with
    | none =>
      have hl := HF.out.none_nil
      subst hl
      go_wp2
      go_meet
      exact ⟨(Below.refl _ _).alloc (Nat.le_refl _) _, World.ownsRow_made w #[] 0 (Nat.le_refl _) (by unfold maxLen; omega) rfl⟩
    | some a =>
      go_wp2_with (at_builtin; refine wpList_append_own _ rfl _ _ 44 rfl w.heap.size 47 i0 (.agg (userC zeroU)) 6 80 Tryz.underlying44 hi hz0 hz1 hz4 rfl (by decide) _ _ _ rfl (World.ownsRow_made _ #[] 0 (Nat.le_refl _) (by unfold maxLen; omega) rfl) a L.length cap (cellsU L) rfl (cellsU_len L) (fun j u hj => inU_cells (HF.out.below ((Below.refl _ _).alloc (Nat.le_refl _) _)) j u hj) (cells_one L) (by unfold maxLen; have := HN.out; omega) (by have := HN.out; omega) (by simp) ?_; intro v' w6 hown' hgrow _)
      have HO : Hid (OwnU w6 w.heap.size v' L) := Lib.hid (by unfold OwnU; rw [Nat.zero_add, List.nil_append] at hown'; exact hown')
      have HB := Lib.hid (below_grown ((Below.refl w.heap.size w).alloc (Nat.le_refl _) _) (Nat.le_refl _) hgrow (fun k hk => Nat.le_of_eq (Option.some.inj hk)))
      clear hown' hgrow
      go_wp2
      go_meet
      exact ⟨HB.out, HO.out⟩
  case rest =>
    obtain ⟨hb1, ho1⟩ := hcut
    obtain ⟨a8, c8, rfl⟩ := ho1.form
    have hl1 : (L.length : Int) ≤ 1000 := by have := HN.out; omega
    have HB1 := Lib.hid hb1
    have HO1 := Lib.hid ho1
    clear hb1 ho1 hi hz0 hz1 hz4
    go_wp2
    go_loopw [9] (fun v9 wr => ∃ k : Nat, k ≤ L.length ∧ v9 = .int .i64 k ∧ Hid (Below w.heap.size w wr ∧ OwnU wr w.heap.size (.slice a8 L.length c8) L ∧ ∀ j (hj : j < k) (hj2 : j < L.length), isName x L[j] = false)) (fun v9 _ => L.length - (intOf v9).toNat)
    case atStart => exact ⟨0, Nat.zero_le _, rfl, Lib.hid ⟨HB1.out, HO1.out, fun j hj => by omega⟩⟩
    case round =>
      obtain ⟨k, hk, rfl, HH⟩ := hrel
      by_cases hlt : k < L.length
      · have hlt1 : (k : Int) < L.length := by omega
        obtain ⟨g, rfl, hg, ⟨g0, g1, _⟩, ⟨f0, f1, _⟩, hst⟩ := own_user HH.out.2.1 hlt
        obtain ⟨g', hg', _, _, _, hps⟩ := own_pass HH.out.2.1 hlt
        obtain rfl : g = g' := by simpa using hg'
        have HPS : Hid (isName x (L[k]'hlt) = true → ChangeP x p L w (.returned (.tuple #[.slice (some ⟨g, 0, none⟩) L.length c8, .bool true])) (wr.setCell ⟨g, k * 6 + 1, none⟩ (.string p))) :=
          Lib.hid fun h => ⟨HH.out.1.setCell (p := ⟨g, k * 6 + 1, none⟩) hg _, .inl ⟨k, hlt, h, fun j hj => HH.out.2.2 j hj (by omega), _, rfl, hps p⟩⟩
        have HNX : Hid (isName x (L[k]'hlt) = false → ∀ j (hj : j < k + 1) (hj2 : j < L.length), isName x L[j] = false) := Lib.hid fun h j hj hj2 => by
          by_cases he : j = k
          · subst he; exact h
          · exact HH.out.2.2 j (by omega) hj2
        clear hst hps hg'
        generalize L[k]'hlt = f at *
        have he1 : (f.name.toList == x.toList) = isName x f := eq_text _ _
        cases hp : isName x f with
        | true =>
          rw [hp] at he1
          have HX := Lib.hid (HPS.out hp)
          clear hp HPS HNX
          go_wp2
          exact bodyPost_ret (v := .tuple #[.slice (some ⟨g, 0, none⟩) L.length c8, .bool true]) (by simp [results, Tryz.results105, go_sem]) rfl HX.out
        | false =>
          rw [hp] at he1
          have HX := Lib.hid (HNX.out hp)
          clear hp HPS HNX f0 f1 g1
          go_wp2
          go_roundw
          case rel => exact ⟨k + 1, by omega, by go_num, Lib.hid ⟨HH.out.1, HH.out.2.1, HX.out⟩⟩
          case measure => simp [intOf]; omega
      · have hlt1 : ¬ (k : Int) < L.length := by omega
        have HX : Hid (∀ f ∈ L, isName x f = false) := Lib.hid fun f hf => by
          obtain ⟨j, hj, rfl⟩ := List.getElem_of_mem hf
          exact HH.out.2.2 j (by omega) hj
        go_wp2
        exact bodyPost_ret (v := .tuple #[.slice none 0 0, .bool false]) (by simp [results, Tryz.results105, go_sem]) rfl ⟨HH.out.1, .inr ⟨HX.out, rfl⟩⟩
end Go.Proofs.Pw
/- LoginSwitches: the walk. -/
namespace Go.Proofs.YtlhlehdajkoogaaGreatDoor
open Go.RowKit

theorem szv_set {L : List Pw.UserS} (h : ∀ u ∈ L, Pw.SzV u) (k : Nat) (hk : k < L.length) : ∀ u ∈ L.set k (Pw.passU sStar L[k]), Pw.SzV u := fun u hu => by
  rcases List.mem_or_eq_of_mem_set hu with h1 | rfl
  · exact h u h1
  · have := h _ (List.getElem_mem hk)
    exact ⟨this.name, (show 1 ≤ 140737488351232 by omega), this.home, this.shell⟩
theorem i64_and255 (n : Int) : bits .and .i64 n 255 = n % 256 := by
  have h7 : (BitVec.ofInt 64 255).toNat = 2 ^ 8 - 1 := by decide
  have key : (BitVec.ofInt 64 n &&& BitVec.ofInt 64 255).toNat = (n % ((2 ^ 64 : Nat) : Int)).toNat % 2 ^ 8 := by
    rw [BitVec.toNat_and, BitVec.toNat_ofInt, h7, Nat.and_two_pow_sub_one_eq_mod]
  show IntKind.i64.wrap ((BitVec.ofInt 64 n &&& BitVec.ofInt 64 255).toNat : Nat) = n % 256
  rw [key, IntKind.wrap_i64]
  omega
theorem user_one_name {M : List Pw.UserS} (h : Pw.RightU M) {q : Nat} (hq : q < M.length) : ∃ k : Nat, ∃ h : k < M.length, Pw.isName M[q].name M[k] = true ∧ M[k] = M[q] ∧ ∀ j (hj : j < M.length), Pw.isName M[q].name M[j] = true → j = k := by
  refine ⟨q, hq, by simp [Pw.isName], rfl, fun j hj e => ?_⟩
  have e1 : M[j].name = M[q].name := of_decide_eq_true e
  have hn := h.nodup
  have hj2 : j < (Pw.namesU M).length := by unfold Pw.namesU; rw [List.length_map]; exact hj
  have hq2 : q < (Pw.namesU M).length := by unfold Pw.namesU; rw [List.length_map]; exact hq
  rcases Nat.lt_trichotomy j q with h1 | h1 | h1
  · exact absurd (by simpa [Pw.namesU] using e1) (List.pairwise_iff_getElem.1 hn j q hj2 hq2 h1)
  · exact h1
  · exact absurd (by simpa [Pw.namesU] using e1.symm) (List.pairwise_iff_getElem.1 hn q j hq2 hj2 h1)
/-- What a printed file is. -/
theorem print_facts {M : List Pw.UserS} {T : ByteArray} (h : Pw.printS M = T) : (T.size = 0 ∧ (M ≠ [] → Pw.rightB M = false)) ∨ (0 < T.size ∧ Pw.RightU M ∧ Pw.printB M = T.data.toList ∧ T.size ≤ 2408) := by
  unfold Pw.printS at h
  by_cases hr : Pw.rightB M = true
  · rw [if_pos hr] at h
    have hR := (Pw.rightB_iff M).1 hr
    have hd : Pw.printB M = T.data.toList := by rw [← h]
    have hl := Pw.print_len M hR.may
    have hsz : T.size = (Pw.printB M).length := by rw [hd]; exact Array.length_toList.symm
    have h8 := hR.len
    by_cases h0 : T.size = 0
    · refine .inl ⟨h0, fun hne => ?_⟩
      cases M with
      | nil => exact absurd rfl hne
      | cons u M =>
        rw [Pw.printB_cons] at hsz
        simp at hsz
        omega
    · exact .inr ⟨by omega, hR, hd, by omega⟩
  · rw [if_neg hr] at h
    exact .inl ⟨by rw [← h]; rfl, fun _ => by simpa using hr⟩
set_option maxRecDepth 100000 in
set_option maxHeartbeats 8000000 in
theorem switch_law (v : Value) (L : List Pw.UserS) (which real : Int) (typed : ByteArray) (w : World) (hF : Pw.InU w v L) (hn : L.length * 80 ≤ 140737488351232) (hS : ∀ u ∈ L, Pw.SzV u) (hW : Pw.HasW w) (h1 : -9223372036854775808 ≤ which) (h2 : which ≤ 9223372036854775807) (htz : typed.size ≤ 140737488351232) :
    Calls Tryz.prog 8 #[v, .int .i64 which, .int .i64 real, .string typed] w fun e w' => e = .returned (.bool true) ∧ Below w.heap.size w w' := by
  obtain ⟨a, cap, rfl, hc⟩ := hF
  have HF : Hid (Pw.InU w (.slice a L.length cap) L) := Lib.hid ⟨a, cap, rfl, hc⟩
  have HN := Lib.hid hn
  have HS := Lib.hid hS
  have HW := Lib.hid hW
  have hlz : (L.length : Int) ≤ 1759218604391 := by omega
  have htz1 : (typed.size : Int) ≤ 140737488351232 := by omega
  clear hc hn hS hW
  obtain ⟨i0, hi, hz0, hz1, hz4⟩ := info_parts Pw.info33
  go_enter Tryz.func8, Tryz.ntmps8
  go_wp2_with fail
  refine shown_any.mono ?_
  rintro e w1 ⟨rfl, hb⟩
  have HB1 := Lib.hid hb
  clear hb
  by_cases h0 : L.length = 0
  · have h0b : ((L.length : Int) == 0) = true := by simp [h0]
    clear h0
    go_wp2
    go_ret
    exact ⟨rfl, HB1.out⟩
  have h0b : ((L.length : Int) == 0) = false := by simp only [beq_eq_false_iff_ne]; omega
  by_cases ht : 300 < typed.size
  · have ht1 : (300 : Int) < typed.size := by omega
    clear ht h0
    go_wp2
    go_ret
    exact ⟨rfl, HB1.out⟩
  have ht1 : ¬ (300 : Int) < typed.size := by omega
  have HT := Lib.hid ht
  clear ht
  obtain ⟨K, hK⟩ : ∃ K : Nat, (if which < 0 then -(which + 1) else which) = (K : Int) := ⟨(if which < 0 then -(which + 1) else which).toNat, by split <;> omega⟩
  go_upto_if 30 with (fail)
  go_cut [1] from 31 (fun v1 wx => wx = w1 ∧ v1 = .int .i64 (K : Int))
  case first =>
    by_cases hz : which < 0
    · rw [if_pos hz] at hK
      have e1 : wrap64 (which + 1) = which + 1 := by unfold wrap64; omega
      have e2 : wrap64 (-(which + 1)) = (K : Int) := by rw [hK]; unfold wrap64; omega
      go_wp2
      go_meet
      exact ⟨rfl, rfl⟩
    · rw [if_neg hz] at hK
      subst hK
      go_wp2
      go_meet
      exact ⟨rfl, rfl⟩
  case rest =>
    obtain ⟨rfl, rfl⟩ := hcut
    obtain ⟨q, hq⟩ : ∃ q, K % L.length = q := ⟨_, rfl⟩
    have hqn : q < L.length := by rw [← hq]; exact Nat.mod_lt _ (by omega)
    have hqe : (K : Int) % (L.length : Int) = (q : Int) := by rw [← hq]; rfl
    have hqz : (q : Int) < L.length := by omega
    have hl0 : ¬ (L.length : Int) = 0 := by omega
    clear hK h1 h2 hq
    go_upto_region 7 with (fail)
    rw [hqe]
    have hne : L ≠ [] := fun h => by rw [h] at h0; exact h0 rfl
    obtain ⟨a0, rfl⟩ : ∃ a0, a = some a0 := by
      cases a with
      | none => exact absurd HF.out.none_nil hne
      | some a0 => exact ⟨a0, rfl⟩
    have HFC := Lib.hid (HF.out.below HB1.out)
    have HQ := Lib.hid hqn
    clear hqe hne
    go_wp2_with (at_builtin; refine wpList_append_own _ rfl _ _ 44 rfl wc.heap.size 47 i0 (.agg (Pw.userC Pw.zeroU)) 6 80 Tryz.underlying44 hi hz0 hz1 hz4 rfl (by decide) _ _ _ rfl (World.ownsRow_made _ #[] 0 (Nat.le_refl _) (by unfold maxLen; omega) rfl) a0 L.length cap (Pw.cellsU L) rfl (Pw.cellsU_len L) (fun j u hj => Pw.inU_cells (HFC.out.below ((Below.refl _ _).alloc (Nat.le_refl _) _)) j u hj) (Pw.cells_one L) (by unfold maxLen; have := HN.out; omega) (by have := HN.out; omega) (by simp) ?_; intro v' w6 hown' hgrow _; have ho6 : Pw.OwnU w6 wc.heap.size v' L := (by unfold Pw.OwnU; rw [Nat.zero_add, List.nil_append] at hown'; exact hown'); have hb6 := below_grown ((Below.refl wc.heap.size wc).alloc (Nat.le_refl _) _) (Nat.le_refl _) hgrow (fun k hk => Nat.le_of_eq (Option.some.inj hk)); obtain ⟨a8, c8, rfl⟩ := ho6.form; obtain ⟨g, rfl, hg, hpc, hpf, hst⟩ := Pw.own_pass ho6 HQ.out)
    have hbA : Below wc.heap.size wc (w6.setCell ⟨g, q * 6 + 1, none⟩ (.string ⟨#[42]⟩)) := hb6.setCell (p := ⟨g, q * 6 + 1, none⟩) hg _
    have hoA : Pw.OwnU (w6.setCell ⟨g, q * 6 + 1, none⟩ (.string ⟨#[42]⟩)) wc.heap.size (.slice (some ⟨g, 0, none⟩) L.length c8) (L.set q (Pw.passU sStar L[q])) := hst sStar
    obtain ⟨M, hM⟩ : ∃ M, L.set q (Pw.passU sStar L[q]) = M := ⟨_, rfl⟩
    have hml : M.length = L.length := by rw [← hM, List.length_set]
    have hMp : ∀ h : q < M.length, M[q].pass = sStar := fun h => by
      have e : M[q]? = some (Pw.passU sStar L[q]) := by rw [← hM, List.getElem?_set_self HQ.out]
      rw [List.getElem?_eq_getElem h] at e
      rw [Option.some.inj e]
      rfl
    have hSV : ∀ u ∈ M, Pw.SzV u := by rw [← hM]; exact szv_set HS.out q HQ.out
    rw [hM] at hoA
    obtain ⟨w7, hw7⟩ : ∃ w7, w6.setCell ⟨g, q * 6 + 1, none⟩ (.string ⟨#[42]⟩) = w7 := ⟨_, rfl⟩
    rw [hw7] at hbA hoA ⊢
    have HSV := Lib.hid hSV
    have HB7 := Lib.hid (HB1.out.trans (hbA.mono HB1.out.size))
    have HGE : Hid (w.heap.size ≤ g) := Lib.hid (Nat.le_trans HB1.out.size hg)
    have hln : M.length ≤ 140737488355328 := by have := HN.out; omega
    have hqm : q < M.length := by rw [hml]; exact HQ.out
    have HMP := Lib.hid (hMp hqm)
    have HOA := Lib.hid hoA
    clear hst hpc hpf ho6 hown' hgrow hb6 hw7 hM hoA hbA hSV hMp hi hz0 hz1 hz4 HF HFC HS
    refine (Pw.rprint_any _ M w7 (Pw.own_inU HOA.out) hln HSV.out).mono ?_
    rintro e w8 ⟨rfl, hb8⟩
    have hoB := HOA.out.grown hb8
    rw [← hml] at hoB
    obtain ⟨g', hg', _, ⟨n0, n1, n2, n3, _, _⟩, _, _⟩ := Pw.own_user hoB hqm
    obtain rfl : g = g' := by simpa using hg'
    have HONE := Lib.hid (fun h => user_one_name (M := M) h hqm)
    obtain ⟨U, hU⟩ : ∃ U, M[q] = U := ⟨_, rfl⟩
    rw [hU] at n0 n1 n2 n3 HMP HONE
    have HB8 := Lib.hid (HB7.out.trans (hb8.mono HB7.out.size))
    have N2 := Lib.hid n2
    have N3 := Lib.hid n3
    have hmne : M ≠ [] := fun h => by rw [h] at hqm; exact absurd hqm (Nat.not_lt_zero q)
    obtain ⟨T, hT⟩ : ∃ T, Pw.printS M = T := ⟨_, rfl⟩
    rw [hT]
    have HPF := Lib.hid (print_facts hT)
    have ha := alloc_heap w8 (.cells #[.string ⟨#[115, 117]⟩, .string U.name] 9)
    have HL := Lib.hid (lnew_any ⟨#[115, 117]⟩ 47 (fun W => prog_su W) ha)
    have HB9 := Lib.hid (belowA HB8.out (.cells #[.string ⟨#[115, 117]⟩, .string U.name] 9))
    clear hb8 hoB hg' n1 n2 n3 HOA HSV HB7 hT ha hU hln
    go_wp2_with fail
    refine HL.out.mono ?_
    rintro e w9 ⟨l, p, pd, pw, v, wv, hN⟩
    obtain rfl := hN.ret
    have hb9 := HB9.out.trans (hN.bel.mono HB9.out.size)
    have HNW := Lib.hid hN
    have HB10 := Lib.hid hb9
    have k9 := Kb.below (hN.bel.mono (Nat.le_refl _))
    obtain ⟨hrun, hnew⟩ := hN.run (B := w8) ((Below.refl w8.heap.size w8).alloc (Nat.le_refl _) _) w9.heap.size
    have hge8 : w8.heap.size ≤ w9.heap.size := by
      have h1 := hN.bel.size
      have h2 := alloc_size w8 (.cells #[.string ⟨#[115, 117]⟩, .string U.name] 9)
      omega
    obtain ⟨X, hX⟩ : ∃ X : SuX, X = { c := ⟨w8, p, w9.heap.size, (⟨#[115, 117]⟩, .slice none 0 0, false, 0)⟩, name := U.name, text := T, typed := typed, real := real % 256, u := U } := ⟨_, rfl⟩
    have HXF : Hid (0 < T.size → Pw.RightU M → Pw.printB M = T.data.toList → T.size ≤ 2408 → SuF X M) := Lib.hid fun h1 h2 h3 h4 => by
      rw [hX]
      exact ⟨rfl, HW.out.below HB8.out, h2, h3, Nat.le_trans h4 (by omega), (show typed.size ≤ 300 by have := HT.out; omega), HONE.out h2, HMP.out⟩
    have HRUN : Hid (Run X.c l w9 { prog := ⟨#[115, 117]⟩, todo := v, th := .nilFunc, c := { op := 0 } } ∧ NewS 47 X.name { prog := ⟨#[115, 117]⟩, todo := v, th := .nilFunc, c := { op := 0 } } w9) := Lib.hid (by rw [hX]; exact ⟨hrun, hnew⟩)
    have HXC : Hid (X.c.w0 = w8 ∧ X.c.q = w9.heap.size ∧ X.text = T ∧ X.typed = typed ∧ X.real = real % 256 ∧ X.u = U) := Lib.hid (by rw [hX]; exact ⟨rfl, rfl, rfl, rfl, rfl, rfl⟩)
    have HGE8 := Lib.hid hge8
    clear hN HNW HL HB9 k9 n0 hb9 hrun hnew hge8 HONE HMP HGE hX HB1 HQ hg
    rcases HPF.out with ⟨hT0, _⟩ | ⟨hT0, hR, hPT, hTl⟩
    · have hTe : T.toList.isEmpty = true := by
        rw [ByteArray.toList_eq, List.isEmpty_iff]
        exact List.eq_nil_of_length_eq_zero (by rw [Array.length_toList]; exact hT0)
      clear HPF hT0
      go_wp2
      go_ret
      exact ⟨rfl, HB10.out⟩
    have hTe : T.toList.isEmpty = false := by
      rw [ByteArray.toList_eq]
      cases hd : T.data.toList with
      | nil =>
        have : T.size = 0 := by show T.data.size = 0; rw [← Array.length_toList, hd]; rfl
        omega
      | cons a l => rfl
    have HF := Lib.hid (HXF.out hT0 hR hPT hTl)
    have hand := i64_and255 real
    clear HPF HXF hT0 hR hPT
    obtain ⟨Z, hZ⟩ : ∃ Z, ({} : An).cells = Z := ⟨_, rfl⟩
    have hz1 := an_size
    have hz2 := an_one
    have hz3 := an_zero
    rw [hZ] at hz1 hz2 hz3
    have HZ2 := Lib.hid hz2
    have HZ3 := Lib.hid hz3
    have HZI : Hid ((Tryz.prog.info? 35).map (·.size) = some Z.size) := Lib.hid (by rw [hz1]; rfl)
    obtain ⟨w4, hw4, hrb, hbel, hs4, hT4⟩ := stored_ans (w := w9) (C := Z) hz1
    have HT4 := Lib.hid hT4
    have HTD0 : Hid (Td X.c l (SuP X .new) { prog := ⟨#[115, 117]⟩, todo := v, th := .nilFunc, c := { op := 0 } } (rSu X .new).cells w4) := Lib.hid (by
      have hq : X.c.q = w9.heap.size := HXC.out.2.1
      have hk := (Kb.below hbel).kr X.c.q
      have hr := HRUN.out.1
      refine ⟨hr.kr (hr.mach.below hbel) (hr.bel.trans (hbel.mono hr.bel.size)) hk, NewS.kr HRUN.out.2 hk, ?_, ?_⟩
      · rw [hq, show (rSu X .new).cells = Z from hZ]; exact hrb
      · rw [hq, HXC.out.1]; exact HGE8.out)
    obtain ⟨N, hN⟩ : ∃ N, T.size = N := ⟨_, rfl⟩
    have HBW : Hid (∀ wr, Below w8.heap.size w8 wr → Below w.heap.size w wr) := Lib.hid fun wr h => HB8.out.trans (h.mono HB8.out.size)
    have HXN : Hid (X.text.size = N ∧ X.c.q = w9.heap.size) := Lib.hid ⟨by rw [HXC.out.2.2.1, hN], HXC.out.2.1⟩
    have hNl : N ≤ 2408 := by omega
    have HB11 : Hid (Below w.heap.size w w4) := Lib.hid (HB10.out.trans (hbel.mono HB10.out.size))
    clear hZ hz1 hz2 hz3 hrb hbel hs4 hT4 HRUN hTl HB8 HB10 HGE8
    go_wp2_with (refine wpList_store_mid rfl 35 _ _ rfl w9.heap.size 0 Z rfl HZ3.out.symm HT4.out HZI.out HZ2.out ?_; rw [hw4]; clear hw4)
    clear HT4 HB11
    obtain ⟨rb, hrbn⟩ : ∃ rb, w9.heap.size = rb := ⟨_, rfl⟩
    rw [hrbn] at HXN HXC ⊢
    clear hrbn
    go_loopg [14, 15, 17] 60 (fun g av tv kv wr => ∃ (k : Nat) (G : SuG) (m : Ma), av = .bool (SuG.askH G) ∧ tv = .int .i64 (SuG.atH N G : Int) ∧ kv = .int .i64 (k : Int) ∧ k + g = 60 ∧ Hid (SuG.Bd N G k ∧ G ≠ .bec ∧ G ≠ .fin ∧ (∀ b, SuG.late G = some b → b = decide (X.real = 0)) ∧ Td X.c l (SuP X G) m (rSu X G).cells wr))
    case atStart => exact ⟨0, .new, _, rfl, rfl, rfl, by omega, Lib.hid ⟨rfl, by simp, by simp, (fun b h => by cases h), HTD0.out⟩⟩
    case round =>
      clear HTD0
      obtain ⟨k, G, m, rfl, rfl, rfl, hkg, HI⟩ := hrel
      have hk60 := SuG.Bd.le (by omega) HI.out.1 HI.out.2.1 HI.out.2.2.1
      obtain ⟨og, rfl⟩ : ∃ og, gk = og + 1 := ⟨gk - 1, by omega⟩
      have hk2 : (k : Int) < 60 := by omega
      have hsl : ∀ a, G = .slp a → a ≤ N := fun a e => by
        have h := HI.out.1
        rw [e] at h
        exact h.2.2.1
      have HAN := Lib.hid HI.out.2.2.2.2.ans
      have HRI : Hid ((Tryz.prog.info? 35).map (·.size) = some (rSu X G).cells.size) := Lib.hid rfl
      have HCA := Lib.hid (su_next HF.out HI.out.2.2.2.2.run G HI.out.2.2.2.2.st (by rw [HXN.out.1]; exact hsl) HI.out.2.1 HI.out.2.2.1 HI.out.2.2.2.2.ans)
      rw [HXN.out.2] at HAN
      have hat := SuG.at_nxt N (decide (X.real = 0)) G hsl
      have has := SuG.ask_nxt N (decide (X.real = 0)) G
      have HNX : Hid (SuG.Bd N (SuG.nxt N (decide (X.real = 0)) G) (k + 1) ∧ (∀ b, SuG.late (SuG.nxt N (decide (X.real = 0)) G) = some b → b = decide (X.real = 0)) ∧ SuG.nxt N (decide (X.real = 0)) G ≠ .new) := Lib.hid ⟨SuG.Bd.nxt (by omega) HI.out.1 HI.out.2.1 HI.out.2.2.1, SuG.late_nxt _ _ _ HI.out.2.2.2.1, SuG.nxt_new _ _ _⟩
      rw [HXN.out.1] at HCA
      have hsz : (rSu X G).cells.size = 19 := rfl
      obtain ⟨R0, hR0⟩ : ∃ R, (rSu X G).cells = R := ⟨_, rfl⟩
      have HTD := Lib.hid HI.out.2.2.2.2
      rw [hR0] at HAN HRI HCA HTD hsz
      generalize SuG.nxt N (decide (X.real = 0)) G = G2 at *
      rw [← hat, ← has]
      clear hat has HI hR0 hsl hk60
      go_wp2_with (refine wpList_load_row rfl 35 _ rfl rb rfl 35 R0 (0, 0) _ HAN.out Tryz.underlying35 rfl HRI.out ?_)
      refine HCA.out.mono ?_
      intro e w5 hn
      obtain ⟨m1, rfl, htold, hT5⟩ := HTD.out.next hn
      have hpr : m1.prog = ⟨#[115, 117]⟩ := congrArg (·.1) (hT5.run.st.trans HF.out.st)
      have hkind := hT5.st.kind HNX.out.2.2 hpr
      obtain ⟨W1, hW1, hcb, hcl, hs1, hcT⟩ := stored_call (w := w5) (C := m1.c.cells) rfl
      have hT1 := hT5.below (fun m w w' => SuP.kr G2 m w w') hcl
      have hans1 := hT1.ans
      rw [HXN.out.2] at hans1
      have hth := there_of hans1
      have hcne := ne_of_type hcb hans1 (by decide)
      obtain ⟨Y, hY⟩ : ∃ Y, ({ n := 3 } : An).cells = Y := ⟨_, rfl⟩
      have hYs : Y.size = 19 := by rw [← hY]; rfl
      have HY3 : Hid (Value.agg Y = .agg #[.int .i64 0, .int .i64 3, .int .i64 0, .string ⟨#[]⟩, .slice none 0 0, .int .i64 0, .int .i64 0, .int .i64 0, .int .i64 0, .int .i64 0, .int .i64 0, .int .i64 0, .int .i64 0, .int .i64 0, .int .i64 0, .int .i64 0, .int .i64 0, .int .i64 0, .int .i64 0]) := Lib.hid (by rw [← hY]; rfl)
      have HY1 : Hid (Y.all (·.oneCell') = true) := Lib.hid (by rw [← hY]; simp [An.cells, Value.oneCell'])
      have HYI : Hid ((Tryz.prog.info? 35).map (·.size) = some Y.size) := Lib.hid (by rw [hYs]; rfl)
      have HTH : Hid (W1.there rb 0 Y.size) := Lib.hid (by rw [hYs, ← hsz]; exact hth)
      have hT2 := hT1.whole (fun m w w' => SuP.kr G2 m w w') (C := Y) (by rw [hYs, hsz])
      rw [HXN.out.2] at hT2
      have hcb2 : (W1.setCells rb 0 Y.toList).heap[w5.heap.size]? = some (.cells m1.c.cells 39 (0, 0)) := (heap_setCells_other hcne _ _ _).trans hcb
      obtain ⟨W2, hW2⟩ : ∃ W2, W1.setCells rb 0 Y.toList = W2 := ⟨_, rfl⟩
      rw [hW2] at hT2 hcb2
      have HT2 := Lib.hid hT2
      have HYC := Lib.hid hY
      have HCT := Lib.hid hcT
      have HCI : Hid ((Tryz.prog.info? 39).map (·.size) = some m1.c.cells.size) := Lib.hid rfl
      have HC1 : Hid (m1.c.cells.all (·.oneCell') = true) := Lib.hid (Ca.one _ htold.1.1 htold.1.2)
      have hco := cell_of hcb2
      have hrc := cell_of (hT2.ans)
      have hrf := frozen_of (hT2.ans)
      rw [HXN.out.2] at hrc hrf
      clear hn htold hT5 hpr hcb hcl hs1 hcT hT1 hans1 hth hcne hYs hT2 hcb2 HTD HAN HRI HCA hsz
      cases hkind with
      | ids e0 =>
        have c0 : W2.cell? ⟨w5.heap.size, 0, none⟩ = some (.int .i64 22) := (hco 0).trans (by rw [← e0]; rfl)
        have r14 : W2.cell? ⟨rb, 14, none⟩ = some (.int .i64 0) := (hrc 14).trans (by rw [← HYC.out]; rfl)
        have f14 := hrf 14
        have HN2 : Hid (SuG.Bd N SuG.ids (k + 1) ∧ SuG.ids ≠ SuG.bec ∧ SuG.ids ≠ SuG.fin ∧ (∀ b, SuG.late SuG.ids = some b → b = decide (X.real = 0)) ∧ Td X.c l (SuP X SuG.ids) m1 (rSu X SuG.ids).cells (W2.setCell ⟨rb, 14, none⟩ (.int .i64 (real % 256)))) := Lib.hid ⟨HNX.out.1, by simp, by simp, HNX.out.2.1, by
          have h := HT2.out.set (fun m w w' => SuP.kr SuG.ids m w w') 14 (.int .i64 (real % 256))
          rw [HXN.out.2, ← HYC.out] at h
          have e : (rSu X .ids).cells = ({ n := 3 } : An).cells.setIfInBounds 14 (.int .i64 (real % 256)) := by
            rw [← HXC.out.2.2.2.2.1]; rfl
          rw [e]
          exact h⟩
        obtain ⟨C, hC⟩ : ∃ C, m1.c.cells = C := ⟨_, rfl⟩
        rw [hC] at HCT HCI HC1 hW1 ⊢
        clear hC hco hrc hrf HT2 e0
        go_wp2_with (first | (refine wpList_store_mid rfl 39 _ _ rfl w5.heap.size 0 C rfl rfl HCT.out HCI.out HC1.out ?_; rw [hW1]; clear hW1) | (refine wpList_store_mid rfl 35 _ _ rfl rb 0 Y rfl HY3.out.symm HTH.out HYI.out HY1.out ?_; rw [hW2]; clear hW2))
        go_roundg og
        case measure => omega
        case rel => exact ⟨k + 1, .ids, m1, rfl, rfl, by go_num, by omega, HN2⟩
      | slp a e0 e4 =>
        have c0 : W2.cell? ⟨w5.heap.size, 0, none⟩ = some (.int .i64 4) := (hco 0).trans (by rw [← e0]; rfl)
        have c4 : W2.cell? ⟨w5.heap.size, 4, none⟩ = some (.int .i64 3) := (hco 4).trans (by rw [← e4]; rfl)
        have r3 : W2.cell? ⟨rb, 3, none⟩ = some (.string ⟨#[]⟩) := (hrc 3).trans (by rw [← HYC.out]; rfl)
        have f3 := hrf 3
        have haN : a ≤ N := HNX.out.1.2.2.1
        obtain ⟨C, hC⟩ : ∃ C, m1.c.cells = C := ⟨_, rfl⟩
        rw [hC] at HCT HCI HC1 hW1 ⊢
        have hhi : (min (N : Int) ((a : Int) + 256)).toNat = min (a + 256) N := by omega
        have hsum : (a : Int) + ((min (a + 256) N - a : Nat) : Int) = (SuG.atH N (.slp a) : Int) := by
          show _ = ((min (a + 256) N : Nat) : Int)
          omega
        have HSUM := Lib.hid hsum
        have HN2 : Hid (SuG.Bd N (.slp a) (k + 1) ∧ SuG.slp a ≠ SuG.bec ∧ SuG.slp a ≠ SuG.fin ∧ (∀ b, SuG.late (.slp a) = some b → b = decide (X.real = 0)) ∧ Td X.c l (SuP X (.slp a)) m1 (rSu X (.slp a)).cells (W2.setCell ⟨rb, 3, none⟩ (.string (T.extract a (min (a + 256) N))))) := Lib.hid ⟨HNX.out.1, by simp, by simp, HNX.out.2.1, by
          have h := HT2.out.set (fun m w w' => SuP.kr (.slp a) m w w') 3 (.string (T.extract a (min (a + 256) N)))
          rw [HXN.out.2, ← HYC.out] at h
          have e : (rSu X (.slp a)).cells = ({ n := 3 } : An).cells.setIfInBounds 3 (.string (T.extract a (min (a + 256) N))) := by
            rw [← HXN.out.1, ← HXC.out.2.2.1]; rfl
          rw [e]
          exact h⟩
        clear hsum
        clear hC hco hrc hrf HT2 e0 e4
        have hat : SuG.atT N (.slp a) = a := rfl
        have has : SuG.askT (.slp a) = false := rfl
        rw [hat, has]
        have ha0 : (0 : Int) ≤ a := by omega
        have ha1 : (a : Int) ≤ T.size := by omega
        have ha2 : (a : Int) + 256 ≤ 2664 := by omega
        go_wp2_with (first | (refine wpList_store_mid rfl 39 _ _ rfl w5.heap.size 0 C rfl rfl HCT.out HCI.out HC1.out ?_; rw [hW1]; clear hW1) | (refine wpList_store_mid rfl 35 _ _ rfl rb 0 Y rfl HY3.out.symm HTH.out HYI.out HY1.out ?_; rw [hW2]; clear hW2))
        go_roundg og
        case measure => omega
        case rel => exact ⟨k + 1, .slp a, m1, rfl, by rw [HSUM.out], by go_num, by omega, HN2⟩
      | rd e0 e4 =>
        have c0 : W2.cell? ⟨w5.heap.size, 0, none⟩ = some (.int .i64 4) := (hco 0).trans (by rw [← e0]; rfl)
        have c4 : W2.cell? ⟨w5.heap.size, 4, none⟩ = some (.int .i64 0) := (hco 4).trans (by rw [← e4]; rfl)
        have r3 : W2.cell? ⟨rb, 3, none⟩ = some (.string ⟨#[]⟩) := (hrc 3).trans (by rw [← HYC.out]; rfl)
        have f3 := hrf 3
        have HN2 : Hid (SuG.Bd N SuG.rd (k + 1) ∧ SuG.rd ≠ SuG.bec ∧ SuG.rd ≠ SuG.fin ∧ (∀ b, SuG.late SuG.rd = some b → b = decide (X.real = 0)) ∧ Td X.c l (SuP X SuG.rd) m1 (rSu X SuG.rd).cells (W2.setCell ⟨rb, 3, none⟩ (.string typed))) := Lib.hid ⟨HNX.out.1, by simp, by simp, HNX.out.2.1, by
          have h := HT2.out.set (fun m w w' => SuP.kr SuG.rd m w w') 3 (.string typed)
          rw [HXN.out.2, ← HYC.out] at h
          have e : (rSu X .rd).cells = ({ n := 3 } : An).cells.setIfInBounds 3 (.string typed) := by
            rw [← HXC.out.2.2.2.1]; rfl
          rw [e]
          exact h⟩
        obtain ⟨C, hC⟩ : ∃ C, m1.c.cells = C := ⟨_, rfl⟩
        rw [hC] at HCT HCI HC1 hW1 ⊢
        clear hC hco hrc hrf HT2 e0 e4
        go_wp2_with (first | (refine wpList_store_mid rfl 39 _ _ rfl w5.heap.size 0 C rfl rfl HCT.out HCI.out HC1.out ?_; rw [hW1]; clear hW1) | (refine wpList_store_mid rfl 35 _ _ rfl rb 0 Y rfl HY3.out.symm HTH.out HYI.out HY1.out ?_; rw [hW2]; clear hW2))
        go_roundg og
        case measure => omega
        case rel => exact ⟨k + 1, .rd, m1, rfl, rfl, by go_num, by omega, HN2⟩
      | wr _ hg5 e0 e3 =>
        obtain ⟨tx, htx⟩ : ∃ tx, m1.c.text = tx := ⟨_, rfl⟩
        have c0 : W2.cell? ⟨w5.heap.size, 0, none⟩ = some (.int .i64 5) := (hco 0).trans (by rw [← e0]; rfl)
        have c3 : W2.cell? ⟨w5.heap.size, 3, none⟩ = some (.string tx) := (hco 3).trans (by rw [← htx]; rfl)
        have htz : (tx.size : Int) = 10 := by rw [← htx, e3]; rfl
        have r1 : W2.cell? ⟨rb, 1, none⟩ = some (.int .i64 3) := (hrc 1).trans (by rw [← HYC.out]; rfl)
        have f1 := hrf 1
        have hgr : rSu X G2 = { n := 10 } ∧ G2 ≠ .bec ∧ G2 ≠ .fin ∧ SuG.atH N G2 = SuG.atT N G2 ∧ SuG.askH G2 = SuG.askT G2 := by
          rcases hg5 with rfl | rfl <;> exact ⟨rfl, by simp, by simp, rfl, rfl⟩
        have HGR := Lib.hid hgr
        have HN2 : Hid (SuG.Bd N G2 (k + 1) ∧ G2 ≠ SuG.bec ∧ G2 ≠ SuG.fin ∧ (∀ b, SuG.late G2 = some b → b = decide (X.real = 0)) ∧ Td X.c l (SuP X G2) m1 (rSu X G2).cells (W2.setCell ⟨rb, 1, none⟩ (.int .i64 10))) := Lib.hid ⟨HNX.out.1, hgr.2.1, hgr.2.2.1, HNX.out.2.1, by
          have h := HT2.out.set (fun m w w' => SuP.kr G2 m w w') 1 (.int .i64 10)
          rw [HXN.out.2, ← HYC.out] at h
          rw [hgr.1]
          exact h⟩
        obtain ⟨C, hC⟩ : ∃ C, m1.c.cells = C := ⟨_, rfl⟩
        rw [hC] at HCT HCI HC1 hW1 ⊢
        clear hC hco hrc hrf HT2 e0 e3 htx hgr hg5
        go_wp2_with (first | (refine wpList_store_mid rfl 39 _ _ rfl w5.heap.size 0 C rfl rfl HCT.out HCI.out HC1.out ?_; rw [hW1]; clear hW1) | (refine wpList_store_mid rfl 35 _ _ rfl rb 0 Y rfl HY3.out.symm HTH.out HYI.out HY1.out ?_; rw [hW2]; clear hW2))
        go_roundg og
        case measure => omega
        case rel => exact ⟨k + 1, G2, m1, by rw [HGR.out.2.2.2.2], by rw [HGR.out.2.2.2.1], by go_num, by omega, HN2⟩
      | bec e0 e8 e9 =>
        have hr0 : (real % 256 == 0) = true := by
          have h := HNX.out.2.1 true rfl
          rw [HXC.out.2.2.2.2.1] at h
          have h' := of_decide_eq_true h.symm
          simpa using h'
        rw [HXC.out.2.2.2.2.2] at e8 e9
        have c0 : W2.cell? ⟨w5.heap.size, 0, none⟩ = some (.int .i64 23) := (hco 0).trans (by rw [← e0]; rfl)
        have c8 : W2.cell? ⟨w5.heap.size, 8, none⟩ = some (.int .i64 U.id) := (hco 8).trans (by rw [← e8]; rfl)
        have c9 : W2.cell? ⟨w5.heap.size, 9, none⟩ = some (.int .i64 U.group) := (hco 9).trans (by rw [← e9]; rfl)
        have hbel := HT2.out.run.bel
        rw [HXC.out.1] at hbel
        have y2 : W2.cell? ⟨g, q * 6 + 2, none⟩ = some (.int .i64 U.id) := (hbel.cell (p := ⟨g, q * 6 + 2, none⟩) (World.block_lt_of_cell? w8 _ N2.out)).trans N2.out
        have y3 : W2.cell? ⟨g, q * 6 + 3, none⟩ = some (.int .i64 U.group) := (hbel.cell (p := ⟨g, q * 6 + 3, none⟩) (World.block_lt_of_cell? w8 _ N3.out)).trans N3.out
        have HBE := Lib.hid (HBW.out _ hbel)
        obtain ⟨C, hC⟩ : ∃ C, m1.c.cells = C := ⟨_, rfl⟩
        rw [hC] at HCT HCI HC1 hW1 ⊢
        clear hC hco hrc hrf HT2 e0 e8 e9 hbel
        go_upto_region 34 with (first | (refine wpList_store_mid rfl 39 _ _ rfl w5.heap.size 0 C rfl rfl HCT.out HCI.out HC1.out ?_; rw [hW1]; clear hW1) | (refine wpList_store_mid rfl 35 _ _ rfl rb 0 Y rfl HY3.out.symm HTH.out HYI.out HY1.out ?_; rw [hW2]; clear hW2))
        go_quiet (fail)
        go_wp2
        go_ret
        exact ⟨rfl, belowDrewN HBE.out _⟩
      | fin e0 e6 =>
        have hr0 : (real % 256 != 0) = true := by
          have h := HNX.out.2.1 false rfl
          rw [HXC.out.2.2.2.2.1] at h
          have h' := of_decide_eq_false h.symm
          simpa using h'
        have c0 : W2.cell? ⟨w5.heap.size, 0, none⟩ = some (.int .i64 20) := (hco 0).trans (by rw [← e0]; rfl)
        have c6 : W2.cell? ⟨w5.heap.size, 6, none⟩ = some (.int .i64 1) := (hco 6).trans (by rw [← e6]; rfl)
        have hbel := HT2.out.run.bel
        rw [HXC.out.1] at hbel
        have HBE := Lib.hid (HBW.out _ hbel)
        obtain ⟨C, hC⟩ : ∃ C, m1.c.cells = C := ⟨_, rfl⟩
        rw [hC] at HCT HCI HC1 hW1 ⊢
        clear hC hco hrc hrf HT2 e0 e6 hbel
        go_wp2_with (first | (refine wpList_store_mid rfl 39 _ _ rfl w5.heap.size 0 C rfl rfl HCT.out HCI.out HC1.out ?_; rw [hW1]; clear hW1) | (refine wpList_store_mid rfl 35 _ _ rfl rb 0 Y rfl HY3.out.symm HTH.out HYI.out HY1.out ?_; rw [hW2]; clear hW2))
        go_ret
        exact ⟨rfl, HBE.out⟩
      | other _ hz h1 h2 hr hat has =>
        obtain ⟨z1, z2, z3, z4, z5⟩ := hz
        have c0 : W2.cell? ⟨w5.heap.size, 0, none⟩ = some (.int .i64 m1.c.op) := hco 0
        have HN2 : Hid (SuG.Bd N G2 (k + 1) ∧ G2 ≠ .bec ∧ G2 ≠ .fin ∧ (∀ b, SuG.late G2 = some b → b = decide (X.real = 0)) ∧ Td X.c l (SuP X G2) m1 (rSu X G2).cells W2) := Lib.hid ⟨HNX.out.1, h1, h2, HNX.out.2.1, by rw [hr, HYC.out]; exact HT2.out⟩
        rw [HXN.out.1] at hat
        have HAT := Lib.hid hat
        have HAS := Lib.hid has
        generalize m1.c.op = z at *
        obtain ⟨C, hC⟩ : ∃ C, m1.c.cells = C := ⟨_, rfl⟩
        rw [hC] at HCT HCI HC1 hW1 ⊢
        clear hC hco hrc hrf h1 h2 hr hat has HT2
        go_wp2_with (first | (refine wpList_store_mid rfl 39 _ _ rfl w5.heap.size 0 C rfl rfl HCT.out HCI.out HC1.out ?_; rw [hW1]; clear hW1) | (refine wpList_store_mid rfl 35 _ _ rfl rb 0 Y rfl HY3.out.symm HTH.out HYI.out HY1.out ?_; rw [hW2]; clear hW2))
        go_roundg og
        case measure => omega
        case rel => exact ⟨k + 1, G2, m1, by rw [HAS.out], by rw [HAT.out], by go_num, by omega, HN2⟩
end Go.Proofs.YtlhlehdajkoogaaGreatDoor
/- Arguments that are slices of users, opened. -/
namespace Go.Proofs.Pw
open Go.ChangeShapes Go.WideShapes Go.ChangeAt Go.RowKit
open Go.Deep (open_slice)

theorem laidOut : laidOutB Tryz.prog = true := by kernel_rfl
theorem cells9 : Tryz.prog.cellsOf 9 = 1 := by kernel_rfl
theorem cells33 : Tryz.prog.cellsOf 47 = 6 := by kernel_rfl
theorem cells3 : Tryz.prog.cellsOf 3 = 1 := by kernel_rfl
theorem weights_all {H : Type} {P : Program} {e : TypeId} {x : DataW H} {k : Nat} : ∀ {l : List (DataW H)}, x ∈ l → k ∈ x.weights P e → k ∈ DataW.weightsAll P e l
  | [], h, _ => by cases h
  | y :: l, h, hk => by
    unfold DataW.weightsAll
    rcases List.mem_cons.1 h with rfl | h
    · exact List.mem_append_left _ hk
    · exact List.mem_append_right _ (weights_all h hk)
theorem drop_one {cs : List Value} {k : Nat} {v : Value} (h : (cs.drop k).take 1 = [v]) : cs[k]? = some v := by
  have := congrArg (fun l : List Value => l[0]?) h
  simpa using this
/-- The sizes of a user's texts are among a datum's weights. -/
structure WeighU {H : Type} (f : UserS) (d : DataW H) : Prop where
  name : f.name.data.toList.length ∈ d.weights Tryz.prog 47
  pass : f.pass.data.toList.length ∈ d.weights Tryz.prog 47
  home : f.home.data.toList.length ∈ d.weights Tryz.prog 47
  shell : f.shell.data.toList.length ∈ d.weights Tryz.prog 47
set_option maxHeartbeats 1000000 in
theorem user_cells {H : Type} {enc : TypeId × Value → H} {W : World} {sp : Nat → Bool} {fuel : Nat} {cs : List Value} {x : DataW H × List MemPlace} (h : DataW.trod enc Tryz.prog W 0 sp true fuel 47 cs = some x) :
    ∃ f : UserS, (∀ i, i < 6 → cs[i]? = (userC f)[i]?) ∧ WeighU f x.1 := by
  obtain ⟨xs, n, _, rfl, hl, hlen, hf⟩ := DataW.trod_struct Tryz.underlying47 h
  have q0 : ∃ s : ByteArray, cs[0]? = some (.string s) ∧ s.data.toList.length ∈ DataW.weights Tryz.prog 47 (.agg (xs.map (·.1))) := by
    obtain ⟨y, hy⟩ : ∃ y, xs[0]? = some y := ⟨_, List.getElem?_eq_getElem (by rw [hlen]; decide)⟩
    have h4 : DataW.trod enc Tryz.prog W 0 sp true n 9 ((cs.drop 0).take (Tryz.prog.cellsOf 9)) = some y := (hf 0 _ rfl).trans hy
    rw [cells9] at h4
    obtain ⟨s, e, ey, _⟩ := DataW.trod_string Tryz.underlying9 h4
    refine ⟨s, drop_one e, ?_⟩
    unfold DataW.weights
    rw [Tryz.underlying47]
    refine DataW.weights_mem_each (j := 0) (t := 9) (d := y.1) rfl (by simp [hy]) _ ?_
    rw [ey]
    simp [DataW.weights]
  have q1 : ∃ s : ByteArray, cs[1]? = some (.string s) ∧ s.data.toList.length ∈ DataW.weights Tryz.prog 47 (.agg (xs.map (·.1))) := by
    obtain ⟨y, hy⟩ : ∃ y, xs[1]? = some y := ⟨_, List.getElem?_eq_getElem (by rw [hlen]; decide)⟩
    have h4 : DataW.trod enc Tryz.prog W 0 sp true n 9 ((cs.drop 1).take (Tryz.prog.cellsOf 9)) = some y := (hf 1 _ rfl).trans hy
    rw [cells9] at h4
    obtain ⟨s, e, ey, _⟩ := DataW.trod_string Tryz.underlying9 h4
    refine ⟨s, drop_one e, ?_⟩
    unfold DataW.weights
    rw [Tryz.underlying47]
    refine DataW.weights_mem_each (j := 1) (t := 9) (d := y.1) rfl (by simp [hy]) _ ?_
    rw [ey]
    simp [DataW.weights]
  have q2 : ∃ v : Int, cs[2]? = some (.int .i64 v) := by
    obtain ⟨y, hy⟩ : ∃ y, xs[2]? = some y := ⟨_, List.getElem?_eq_getElem (by rw [hlen]; decide)⟩
    have h4 : DataW.trod enc Tryz.prog W 0 sp true n 3 ((cs.drop 2).take (Tryz.prog.cellsOf 3)) = some y := (hf 2 _ rfl).trans hy
    rw [cells3] at h4
    obtain ⟨v, e, _, _⟩ := DataW.trod_int Tryz.underlying3 h4
    exact ⟨v, drop_one e⟩
  have q3 : ∃ v : Int, cs[3]? = some (.int .i64 v) := by
    obtain ⟨y, hy⟩ : ∃ y, xs[3]? = some y := ⟨_, List.getElem?_eq_getElem (by rw [hlen]; decide)⟩
    have h4 : DataW.trod enc Tryz.prog W 0 sp true n 3 ((cs.drop 3).take (Tryz.prog.cellsOf 3)) = some y := (hf 3 _ rfl).trans hy
    rw [cells3] at h4
    obtain ⟨v, e, _, _⟩ := DataW.trod_int Tryz.underlying3 h4
    exact ⟨v, drop_one e⟩
  have q4 : ∃ s : ByteArray, cs[4]? = some (.string s) ∧ s.data.toList.length ∈ DataW.weights Tryz.prog 47 (.agg (xs.map (·.1))) := by
    obtain ⟨y, hy⟩ : ∃ y, xs[4]? = some y := ⟨_, List.getElem?_eq_getElem (by rw [hlen]; decide)⟩
    have h4 : DataW.trod enc Tryz.prog W 0 sp true n 9 ((cs.drop 4).take (Tryz.prog.cellsOf 9)) = some y := (hf 4 _ rfl).trans hy
    rw [cells9] at h4
    obtain ⟨s, e, ey, _⟩ := DataW.trod_string Tryz.underlying9 h4
    refine ⟨s, drop_one e, ?_⟩
    unfold DataW.weights
    rw [Tryz.underlying47]
    refine DataW.weights_mem_each (j := 4) (t := 9) (d := y.1) rfl (by simp [hy]) _ ?_
    rw [ey]
    simp [DataW.weights]
  have q5 : ∃ s : ByteArray, cs[5]? = some (.string s) ∧ s.data.toList.length ∈ DataW.weights Tryz.prog 47 (.agg (xs.map (·.1))) := by
    obtain ⟨y, hy⟩ : ∃ y, xs[5]? = some y := ⟨_, List.getElem?_eq_getElem (by rw [hlen]; decide)⟩
    have h4 : DataW.trod enc Tryz.prog W 0 sp true n 9 ((cs.drop 5).take (Tryz.prog.cellsOf 9)) = some y := (hf 5 _ rfl).trans hy
    rw [cells9] at h4
    obtain ⟨s, e, ey, _⟩ := DataW.trod_string Tryz.underlying9 h4
    refine ⟨s, drop_one e, ?_⟩
    unfold DataW.weights
    rw [Tryz.underlying47]
    refine DataW.weights_mem_each (j := 5) (t := 9) (d := y.1) rfl (by simp [hy]) _ ?_
    rw [ey]
    simp [DataW.weights]
  obtain ⟨s0, k0, w0⟩ := q0
  obtain ⟨s1, k1, w1⟩ := q1
  obtain ⟨i2, k2⟩ := q2
  obtain ⟨i3, k3⟩ := q3
  obtain ⟨s4, k4, w4⟩ := q4
  obtain ⟨s5, k5, w5⟩ := q5
  refine ⟨⟨s0, s1, i2, i3, s4, s5⟩, fun i hi => ?_, ⟨w0, w1, w4, w5⟩⟩
  obtain rfl | rfl | rfl | rfl | rfl | rfl : i = 0 ∨ i = 1 ∨ i = 2 ∨ i = 3 ∨ i = 4 ∨ i = 5 := by omega
  · exact k0
  · exact k1
  · exact k2
  · exact k3
  · exact k4
  · exact k5
theorem cells_get {W : World} {a : Addr} {n : Nat} {cs : List Value} (h : W.cells? 0 a n = some cs) (i : Nat) (hi : i < n) : W.cell? (a.add i) = cs[i]? := by
  unfold World.cells? at h
  rw [if_pos (Nat.zero_le _)] at h
  exact mapM_some_get h i i (by simp [hi])
theorem bytes33 : 1 ≤ Tryz.prog.bytesOf 47 := by decide +kernel
/-- How users and their datum go together. -/
def UserD {H : Type} (d : DataW H) (fs : List UserS) : Prop := (d = .nil ∧ fs = []) ∨ ∃ el sp, d = .slice el sp ∧ fs.length = el.length ∧ ∀ f ∈ fs, ∃ x ∈ el, WeighU f x
theorem in_users {H : Type} {enc : TypeId × Value → H} {W : World} {A : Option Addr} {n c : Nat} {d : DataW H} {p : List MemPlace} (h : DataW.Trod enc Tryz.prog W 0 (fun _ => true) true 44 (.slice A n c) d p) :
    ∃ fs : List UserS, InU W (.slice A n c) fs ∧ fs.length = n ∧ n ≤ c ∧ c ≤ maxLen ∧ UserD d fs := by
  obtain ⟨fuel, hf⟩ := h
  rcases open_slice Tryz.underlying44 hf with ⟨hcs, hx⟩ | ⟨a, len, cap, m, nn, D, Pl, hcs, _, hl, hm, hz, hx, hel⟩
  · simp [Value.cells] at hcs
    obtain ⟨rfl, rfl, rfl⟩ := hcs
    exact ⟨[], ⟨none, 0, rfl, fun j hj => absurd hj (Nat.not_lt_zero j)⟩, rfl, Nat.le_refl _, Nat.zero_le _, .inl ⟨by simpa using congrArg Prod.fst hx, rfl⟩⟩
  · simp [Value.cells] at hcs
    obtain ⟨rfl, rfl, rfl⟩ := hcs
    simp only [if_true] at hz
    have each : ∀ j, ∃ f : UserS, j < n → (∃ cs', W.cells? 0 (a.add (j * 6)) 6 = some cs' ∧ ∀ i, i < 6 → cs'[i]? = (userC f)[i]?) ∧ WeighU f (D j) := fun j => by
      by_cases hj : j < n
      · obtain ⟨cs', h1, h2⟩ := hel j (by omega)
        rw [cells33] at h1
        obtain ⟨f, hf, hw⟩ := user_cells h2
        exact ⟨f, fun _ => ⟨⟨cs', h1, hf⟩, hw⟩⟩
      · exact ⟨zeroU, fun h => absurd h hj⟩
    obtain ⟨F, hF⟩ := Classical.axiomOfChoice each
    have hlen : ((List.range n).map F).length = n := by simp
    refine ⟨(List.range n).map F, ⟨some a, c, by rw [hlen], fun j hj => ?_⟩, hlen, hl, hm, .inr ⟨_, _, congrArg Prod.fst hx, by simp, fun f hfm => ?_⟩⟩
    · rw [hlen] at hj
      obtain ⟨⟨cs', h1, h2⟩, _⟩ := hF j hj
      obtain ⟨b, off, spot⟩ := a
      obtain ⟨⟨cz, hz1, hz2⟩, _⟩ := hF 0 (by omega)
      have h00 : W.cell? (((⟨b, off, spot⟩ : Addr).add (0 * 6)).add 0) = some (.string (F 0).name) := by rw [cells_get hz1 0 (by omega), hz2 0 (by omega)]; rfl
      have hspot : spot = none := by simpa [Addr.add] using World.cell?_spot h00
      subst hspot
      refine ⟨b, off, rfl, fun i hi => ?_⟩
      have h3 := cells_get h1 i hi
      rw [add_plain, add_plain] at h3
      rw [h3, h2 i hi]
      simp
    · obtain ⟨j, hj, rfl⟩ := List.mem_map.1 hfm
      rw [List.mem_range] at hj
      exact ⟨D j, List.mem_map.2 ⟨j, List.mem_range.2 hj, rfl⟩, (hF j hj).2⟩
theorem users_len {H : Type} {ts : List TypeId} {ds : List (DataW H)} (h : (DataW.weightsEach Tryz.prog ts ds).all (· ≤ reachBytes) = true) {j : Nat} {d : DataW H} {fs : List UserS} (ht : ts[j]? = some 44) (hd : ds[j]? = some d) (hs : UserD d fs) : fs.length ≤ 140737488351232 := by
  rcases hs with ⟨_, rfl⟩ | ⟨el, sp, rfl, hl, _⟩
  · simp
  · have h1 := sized_slice h ht hd Tryz.underlying44
    have h2 := Nat.le_mul_of_pos_right (el.length + sp.length) bytes33
    simp only [reachBytes] at h1
    omega
theorem users_sized {H : Type} {ts : List TypeId} {ds : List (DataW H)} (h : (DataW.weightsEach Tryz.prog ts ds).all (· ≤ reachBytes) = true) {j : Nat} {d : DataW H} {fs : List UserS} (ht : ts[j]? = some 44) (hd : ds[j]? = some d) (hs : UserD d fs) : ∀ f ∈ fs, SzU f := by
  intro f hf
  rcases hs with ⟨_, rfl⟩ | ⟨el, sp, rfl, _, hm⟩
  · cases hf
  · obtain ⟨x, hx, hw⟩ := hm f hf
    have key : ∀ k, k ∈ x.weights Tryz.prog 47 → k ≤ 140737488351232 := fun k hk => by
      have h1 : k ∈ DataW.weights Tryz.prog 44 (.slice el sp : DataW H) := by
        unfold DataW.weights
        rw [Tryz.underlying44]
        exact List.mem_cons_of_mem _ (List.mem_append_left _ (weights_all hx hk))
      have h2 := List.all_eq_true.1 h _ (DataW.weights_mem_each ht hd _ h1)
      have h3 : k ≤ reachBytes := of_decide_eq_true h2
      exact h3
    refine ⟨?_, ?_, ?_, ?_⟩
    · rw [← sz]; exact key _ hw.name
    · rw [← sz]; exact key _ hw.pass
    · rw [← sz]; exact key _ hw.home
    · rw [← sz]; exact key _ hw.shell
end Go.Proofs.Pw
/- What the bulk of users says of their texts. -/
namespace Go.Proofs.Pw
open Go.ChangeShapes Go.WideShapes Go.ChangeAt Go.RowKit

theorem bulk_str {H : Type} {d : DataW H} {t : TypeId} (ht : t = 9 ∨ t = 3) {k : Nat} (h : k ∈ d.weights Tryz.prog t) : k ≤ YtlhlehdajkoogaaGreatDoor.Rows.uptoBulk d := by
  rcases ht with rfl | rfl
  · cases d with
    | lit l => cases l <;> simp [DataW.weights, YtlhlehdajkoogaaGreatDoor.Rows.uptoBulk] at h ⊢ <;> omega
    | _ => simp [DataW.weights, Tryz.underlying9] at h
  · cases d with
    | lit l => cases l <;> simp [DataW.weights, YtlhlehdajkoogaaGreatDoor.Rows.uptoBulk] at h ⊢ <;> omega
    | _ => simp [DataW.weights, Tryz.underlying3] at h
theorem bulk_each {H : Type} : ∀ {ts : List TypeId} {ds : List (DataW H)} {k : Nat}, (∀ t ∈ ts, t = 9 ∨ t = 3) → k ∈ DataW.weightsEach Tryz.prog ts ds → k ≤ YtlhlehdajkoogaaGreatDoor.Rows.uptoBulkAll ds
  | [], _, _, _, h => by simp [DataW.weightsEach] at h
  | _ :: _, [], _, _, h => by simp [DataW.weightsEach] at h
  | t :: ts, d :: ds, k, ht, h => by
    simp only [DataW.weightsEach, List.mem_append] at h
    simp only [YtlhlehdajkoogaaGreatDoor.Rows.uptoBulkAll]
    rcases h with h | h
    · have := bulk_str (ht t (by simp)) h; omega
    · have := bulk_each (fun t' h' => ht t' (by simp [h'])) h; omega
theorem bulk_user {H : Type} {d : DataW H} {k : Nat} (h : k ∈ d.weights Tryz.prog 47) : k ≤ YtlhlehdajkoogaaGreatDoor.Rows.uptoBulk d := by
  cases d with
  | lit l => cases l <;> simp [DataW.weights, YtlhlehdajkoogaaGreatDoor.Rows.uptoBulk] at h ⊢ <;> omega
  | agg parts =>
    simp only [DataW.weights, Tryz.underlying47] at h
    simp only [YtlhlehdajkoogaaGreatDoor.Rows.uptoBulk]
    have := bulk_each (ts := _) (by decide) h
    omega
  | _ => simp [DataW.weights, Tryz.underlying47] at h
theorem bulk_mem {H : Type} {x : DataW H} : ∀ {l : List (DataW H)}, x ∈ l → YtlhlehdajkoogaaGreatDoor.Rows.uptoBulk x ≤ YtlhlehdajkoogaaGreatDoor.Rows.uptoBulkAll l
  | [], h => by cases h
  | y :: l, h => by
    simp only [YtlhlehdajkoogaaGreatDoor.Rows.uptoBulkAll]
    rcases List.mem_cons.1 h with rfl | h
    · omega
    · have := bulk_mem h; omega
theorem users_bulk {H : Type} {d : DataW H} {fs : List UserS} (hd : UserD d fs) (h : YtlhlehdajkoogaaGreatDoor.Rows.uptoBulk d ≤ 1048576) : ∀ f ∈ fs, SzV f := by
  intro f hf
  rcases hd with ⟨_, rfl⟩ | ⟨el, sp, rfl, _, hm⟩
  · cases hf
  · obtain ⟨x, hx, hw⟩ := hm f hf
    have key : ∀ k, k ∈ x.weights Tryz.prog 47 → k ≤ 1048576 := fun k hk => by
      have h1 := bulk_user hk
      have h2 := bulk_mem hx
      simp only [YtlhlehdajkoogaaGreatDoor.Rows.uptoBulk] at h
      omega
    refine ⟨?_, ?_, ?_, ?_⟩
    · rw [← sz]; have := key _ hw.name; omega
    · rw [← sz]; have := key _ hw.pass; omega
    · rw [← sz]; exact key _ hw.home
    · rw [← sz]; exact key _ hw.shell
theorem bytes80 : Tryz.prog.bytesOf 47 = 80 := by decide +kernel
theorem users_bytes {H : Type} {ts : List TypeId} {ds : List (DataW H)} (h : (DataW.weightsEach Tryz.prog ts ds).all (· ≤ reachBytes) = true) {j : Nat} {d : DataW H} {fs : List UserS} (ht : ts[j]? = some 44) (hd : ds[j]? = some d) (hs : UserD d fs) : fs.length * 80 ≤ 140737488351232 := by
  rcases hs with ⟨_, rfl⟩ | ⟨el, sp, rfl, hl, _⟩
  · simp
  · have h1 := sized_slice h ht hd Tryz.underlying44
    rw [bytes80] at h1
    simp only [reachBytes] at h1
    omega
end Go.Proofs.Pw
/- What the laid variables give the walks. -/
namespace Go.Proofs.YtlhlehdajkoogaaGreatDoor
open Go.RowKit

theorem laid_tail {P : Program} {W : World} {x : String × DataW Unit} {rest : List (String × DataW Unit)} (h : laidMet P (x :: rest) W) : laidMet P rest W := by
  obtain ⟨ps, hv, hnd, hm⟩ := h
  obtain ⟨g, t, cs, fuel, p, q, h1, h2, h3, h4, h5, rfl⟩ := hv
  exact ⟨q, h5, (List.nodup_append.1 hnd).2.1, fun b off hb => hm b off (List.mem_append_right _ hb)⟩
theorem err_cell {W : World} {name : String} {d : DataW Unit} {rest : List (String × DataW Unit)} {g : Nat} (h : laidMet Tryz.prog ((name, d) :: rest) W) (hg : Tryz.prog.globalNamed name = some g) (ht : (Tryz.prog.globals[g]?).map (·.type) = some 134) {n : String} {e : DataW Unit} (hd : d = .iface n e) :
    ∃ u v, W.cell? ⟨g, 0, none⟩ = some (.iface u v) := by
  obtain ⟨ps, ⟨g', t', cs, fuel, p, q, hg', ht', hv, hd', _⟩, _⟩ := h
  obtain rfl := Option.some.inj (hg.symm.trans hg')
  obtain rfl := Option.some.inj (ht.symm.trans ht')
  subst hd
  obtain ⟨f2, u, v, hcs, _, _⟩ := iface_of_trod Tryz.underlying134 hd'
  refine ⟨u, v, ?_⟩
  rw [World.var?_cell hg hv 0]
  have : cs.toList[0]? = some (.iface u v) := by rw [hcs]; rfl
  simpa using this
set_option maxRecDepth 100000 in
theorem has_w {W : World} (h : laidMetH Tryz.prog tables W) (hS : W.ShapedOpen Tryz.prog) : Pw.HasW W := by
  rw [MakeChecks.laidMetH_plain _ _ _ (by kernel_rfl)] at h
  have h3 := laid_tail (laid_tail h)
  have h5 := laid_tail (laid_tail h3)
  have h6 := laid_tail h5
  refine ⟨Tryz.laysM146.s1_3 W hS, err_cell h6 (by kernel_rfl) (by kernel_rfl) rfl, err_cell h5 (by kernel_rfl) (by kernel_rfl) rfl, ?_⟩
  exact Lib.tabIs_of_head (g := 3) (by kernel_rfl) (by kernel_rfl) Tryz.underlying208 (by kernel_rfl) (by kernel_rfl) (by kernel_rfl) h3
end Go.Proofs.YtlhlehdajkoogaaGreatDoor
/- A number that came in lies within its kind's range. -/

namespace Go.Proofs.YtlhlehdajkoogaaGreatDoor
open Go.RowKit

theorem laidOut : laidOutB Tryz.prog = true := by kernel_rfl
theorem int_range {n : Int} (h : (Lit.int .i64 n).wf = true) : -9223372036854775808 ≤ n ∧ n ≤ 9223372036854775807 := by
  unfold Lit.wf at h
  simp at h
  have e : IntKind.i64.min = -9223372036854775808 := by decide
  rw [e] at h
  exact h
end Go.Proofs.YtlhlehdajkoogaaGreatDoor
namespace Go.Proofs.YtlhlehdajkoogaaGreatDoor.loginSwitches
open Go.ChangeShapes Go.WideShapes Go.ChangeAt Go.RowKit
open Go.ChangeMaps (open_string shut_string)
set_option linter.unusedVariables false

theorem reads (os : Os) {H : Type} (enc : TypeId × Value → H) : ∃ places, DataW.whole enc Tryz.prog ((laidWorld os).forCall (fun _ _ => 0) ⟨#[], #[.slice none 0 0, .int .i64 0, .int .i64 0, .string ByteArray.empty], []⟩).memory Tryz.f8.params.toList (Rows.OpenSpec.upto Rows.loginSwitchesSpec).vars false (#[Value.slice none 0 0, Value.int .i64 0, Value.int .i64 0, Value.string ByteArray.empty]).toList 8 = some ([.nil, .lit (.int .i64 0), .lit (.int .i64 0), .lit (.string [])], [], places) :=
  ⟨[], by kernel_rfl⟩

set_option maxHeartbeats 2000000 in
set_option maxRecDepth 100000 in
theorem lifted (os : Os) (started : os.Started) (H : Type) (enc : TypeId × Value → H) (F : Stop.Interp) :
    ReturnsInHanded {} Tryz.checked os 8 .any ((Rows.OpenSpec.upto Rows.loginSwitchesSpec).preRow enc Tryz.prog Tryz.f8 Rows.loginSwitchesUptoRow.domain false Rows.loginSwitchesUptoRow.laid) (((Rows.OpenSpec.upto Rows.loginSwitchesSpec).at F).post enc Tryz.prog Tryz.f8 false true false false) := by
  obtain ⟨places, hx⟩ := reads os enc
  refine returnsInHanded_of_row (C := Tryz.checked) (s := Rows.OpenSpec.upto Rows.loginSwitchesSpec) own started (by kernel_rfl) Tryz.func8
    (witness_row_at (enc := enc) (C := Tryz.checked) false (laidWorld os) #[.slice none 0 0, .int .i64 0, .int .i64 0, .string ByteArray.empty] rfl (by kernel_rfl) (by kernel_rfl) (by kernel_rfl)
      (OpenSpec.preRow_of_cond 8 hx (by kernel_rfl) (fun k hk => by cases hk; kernel_rfl) (by kernel_rfl) (laid_met os _))) ?_
  intro W base args ds gs before hval0 hW _ hcond hsz0 hL hSh _
  have hval : ∀ (j : Nat) t v, Tryz.f8.params[j]? = some t → args[j]? = some v → Value.okWide Tryz.prog W .any base t v := hval0
  have hW' := hW
  obtain ⟨p, q, hA0, hV, rfl, hfz, hnd⟩ := hW
  have hA : DataW.TrodAll enc Tryz.prog W 0 (fun _ => true) true Tryz.f8.params.toList args.toList ds p := hA0
  have hsz : (DataW.weightsEach Tryz.prog (Tryz.f8.params.toList ++ (Rows.OpenSpec.upto Rows.loginSwitchesSpec).bare.plain.varTypes Tryz.prog) (ds ++ gs)).all (· ≤ reachBytes) = true := hsz0
  rw [Tryz.params8] at hA hval hsz
  obtain ⟨v0, vs0, d0, ds0, p0, q0, hargs, rfl, rfl, h0, r0q⟩ := trodAll_cons hA
  obtain ⟨v1, vs1, d1, ds1, p1, q1, rfl, rfl, rfl, h1, r1q⟩ := trodAll_cons r0q
  obtain ⟨v2, vs2, d2, ds2, p2, q2, rfl, rfl, rfl, h2, r2q⟩ := trodAll_cons r1q
  obtain ⟨v3, vs3, d3, ds3, p3, q3, rfl, rfl, rfl, h3, r3q⟩ := trodAll_cons r2q
  obtain ⟨rfl, rfl, rfl⟩ := trodAll_nil r3q
  obtain rfl : args = #[v0, v1, v2, v3] := by cases args; simp_all
  obtain ⟨rfl, rfl⟩ := trodVars_none hV
  obtain ⟨A0, n0, c0, rfl⟩ := okWide_slice Tryz.underlying44 (hval 0 44 v0 rfl rfl)
  obtain ⟨L0, hL0, hlen0, hcap0, hmax0, hd0⟩ := Pw.in_users h0
  have hs0 := Pw.users_sized hsz (j := 0) rfl rfl hd0
  have hn0 := Pw.users_len hsz (j := 0) rfl rfl hd0
  obtain ⟨a1, rfl, rfl, rfl, w1⟩ := open_int Tryz.underlying3 (hval 1 3 v1 rfl rfl) h1
  obtain ⟨a2, rfl, rfl, rfl, w2⟩ := open_int Tryz.underlying3 (hval 2 3 v2 rfl rfl) h2
  obtain ⟨a3, rfl, rfl, rfl, w3⟩ := open_string Tryz.underlying9 (hval 3 9 v3 rfl rfl) h3
  have r3 : a3.size ≤ 140737488351232 := by have h := sized_string hsz (j := 3) (t := 9) rfl rfl; simp only [reachBytes, Array.length_toList] at h; exact h
  clear hA0 hval0
  have hu := hcond _ rfl
  simp only [List.append_nil, List.nil_append] at hW'
  subst hlen0
  refine (switch_law (.slice A0 L0.length c0) L0 a1 a2 a3 W hL0 (Pw.users_bytes hsz (j := 0) rfl rfl hd0) (Pw.users_bulk hd0 (by have h := of_decide_eq_true hu; simp [Rows.uptoBulkAll] at h; omega)) (has_w hL hSh) (int_range w1).1 (int_range w1).2 r3).mono fun e W' ⟨he, bel⟩ => ?_
  subst he
  have hlt : ∀ x, x ∈ p0 → x.block < W.heap.size := fun x hx => by
    have := hW'.lt x (by simpa using hx)
    simpa using this
  exact ⟨_, rfl, _, _, _, [], _, [], hW', trodAll_mk1 (shut_bool Tryz.underlying4 _), (trodAll_cons_mk (Below.trod laidOut (by kernel_rfl) (of_decide_eq_true (by kernel_rfl)) h0 bel (fun x hx => hlt x hx)) (trodAll_cons_mk (shut_int Tryz.underlying3 w1) (trodAll_cons_mk (shut_int Tryz.underlying3 w2) (trodAll_cons_mk (shut_string Tryz.underlying9 w3) trodAll_mk0)))), rfl, bel.frame _, fun h => by cases h⟩

theorem said : Rows.LoginSwitchesUptoSaid :=
  OpenClaim.holds_of_cond 8 Tryz.f8 rfl rfl rfl rfl rfl rfl rfl ⟨rfl, rfl, rfl, rfl, rfl⟩ rfl rfl rfl rfl rfl (by kernel_rfl) Tryz.func8 (by kernel_rfl)
    (of_decide_eq_true (by kernel_rfl)) (by unfold Func.isWrapper; first | (rw [if_pos (by decide +kernel)]; kernel_rfl) | (rw [if_neg (by decide +kernel)]; exact ⟨rfl, rfl⟩))
    (fun os started H enc _ F => by rw [OpenClaim.pre_eq_preRow]; exact lifted os started H enc F)

theorem plain (f : FuncId) (fn : Func) (hf : Tryz.pinned.checked.prog.funcNamed Rows.loginSwitchesUptoRow.func = some f) (hfn : Tryz.pinned.checked.prog.funcs[f]? = some fn) :
    true = Tryz.pinned.checked.prog.looks [] ∧ ∀ (j : Nat) t, fn.params[j]? = some t → Tryz.pinned.checked.prog.wantsStandIn t = false := by
  obtain rfl : f = 8 := Option.some.inj ((show Tryz.prog.funcNamed Rows.loginSwitchesUptoRow.func = some 8 by kernel_rfl).symm.trans hf) |>.symm
  obtain rfl : fn = Tryz.f8 := (Option.some.inj (Tryz.func8.symm.trans hfn)).symm
  refine ⟨by kernel_rfl, fun j t ht => ?_⟩
  rw [Tryz.params8] at ht
  have ht' := Array.mem_of_getElem? ht
  have hall : ∀ t : TypeId, t ∈ #[44, 3, 3, 9] → Tryz.prog.wantsStandIn t = false := by
    intro t h
    simp only [List.mem_toArray, List.mem_cons, List.mem_nil_iff, or_false] at h
    rcases h with rfl | rfl | rfl | rfl <;> kernel_rfl
  exact hall t ht'

/-- The card. -/
theorem proved : Rows.LoginSwitchesUptoCardSaid :=
  Claim7.holds_tied_plain_at .later [] _ _ _ _ said (fun _ h => by cases h) (by kernel_rfl) (fun _ h => by cases h) loginSwitchesUpto_row_tie rfl ⟨rfl, rfl⟩ (by kernel_rfl) rfl plain (by kernel_rfl)
#print axioms proved
end Go.Proofs.YtlhlehdajkoogaaGreatDoor.loginSwitches
