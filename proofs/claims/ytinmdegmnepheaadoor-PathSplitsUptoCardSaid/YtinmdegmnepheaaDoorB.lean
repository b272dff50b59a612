import Derived.Test.YtinmdegmnepheaaDoorA
import Derived.RegionTactic
import Derived.BigRegion
import Derived.OwnWalk
import Derived.Maps.AppendAt
namespace Go.Proofs.YtinmdegmnepheaaDoor
open Go.RowKit

/-- A slice of strings, as it reads. -/
def Sl (w : World) (v : Value) (l : List ByteArray) : Prop :=
  ∃ a cap, v = .slice a l.length cap ∧ ∀ j (h : j < l.length), ∃ b off, a = some ⟨b, off, none⟩ ∧ w.cell? ⟨b, off + j, none⟩ = some (.string l[j])
theorem Sl.of_own {w : World} {base : Nat} {v : Value} {l : List ByteArray} (h : w.ownsRow base 9 1 v l.length (l.map .string)) : Sl w v l := by
  obtain ⟨_, ⟨rfl, h0⟩ | ⟨g, cap, cur, rfl, hb, hh, hn, hc, hs, ht⟩⟩ := h
  · exact ⟨none, 0, by rw [h0], fun j hj => by omega⟩
  · refine ⟨_, cap, rfl, fun j hj => ⟨g, 0, rfl, ?_⟩⟩
    have h1 : (l.map Value.string)[j]? = some (.string l[j]) := by simp [hj]
    rw [← ht, List.getElem?_take] at h1
    rw [if_pos (by omega)] at h1
    simpa [World.cell?, hh] using h1

set_option maxHeartbeats 400000 in
theorem same_eq (w : World) (v u : Value) (l : List ByteArray) (h : Sl w v l) (g : Sl w u l) (hl : l.length ≤ 1000000) :
    Calls Tryd.prog 13 #[v, u] w fun e w' => e = .returned (.bool true) ∧ ∃ k, w' = w.drewN k := by
  obtain ⟨a, ca, rfl, ha⟩ := h
  obtain ⟨b, cb, rfl, hb⟩ := g
  have HA := Lib.hid ha
  have HB := Lib.hid hb
  have hl1 : (l.length : Int) ≤ 1000000 := by omega
  clear ha hb
  go_enter Tryd.func13, Tryd.ntmps13
  go_wp2
  go_loopw [5] (fun i wr => ∃ k q : Nat, k ≤ l.length ∧ i = .int .i64 k ∧ wr = w.drewN q) (fun i _ => l.length - (intOf i).toNat)
  case atStart => exact ⟨0, 0, Nat.zero_le _, rfl, rfl⟩
  case round =>
    obtain ⟨k, q, hk, rfl, rfl⟩ := hrel
    by_cases hlt : k < l.length
    · obtain ⟨ba, oa, rfl, hca⟩ := HA.out k hlt
      obtain ⟨bb, ob, rfl, hcb⟩ := HB.out k hlt
      generalize l[k] = x at hca hcb
      have hlt1 : (k : Int) < l.length := by omega
      go_wp2
      go_quiet (fail)
      go_wp2
      go_roundw
      case rel => exact ⟨k + 1, q + nq, by omega, by go_num, rfl⟩
      case measure => simp [intOf]; omega
    · go_wp2
      go_ret
      exact ⟨rfl, _, rfl⟩

/-! ### The document's Parts -/
theorem info9 : (Tryd.prog.info? 9).map (fun i => (i.zero, i.size, i.bytes)) = some (some (.string ByteArray.empty), 1, 16) := by kernel_rfl

/-- What has been met of a text when k bytes of it are over: the names l, and the piece from f on. -/
def PartsAt (s : ByteArray) (k f : Nat) (l : List ByteArray) : Prop :=
  f ≤ k ∧ parts s.data.toList = l.map (fun x => x.data.toList) ++ partsA (s.data.toList.drop k) ((s.data.toList.take k).drop f).reverse
theorem PartsAt.start (s : ByteArray) : PartsAt s 0 0 [] := ⟨Nat.le_refl _, by simp [parts]⟩
theorem PartsAt.piece {s : ByteArray} {k f : Nat} (hf : f ≤ k) (hk : k ≤ s.size) : ((s.data.toList.take k).drop f = [] ↔ f = k) := by
  rw [List.drop_eq_nil_iff, List.length_take, sz]; omega
theorem PartsAt.go {s : ByteArray} {k f : Nat} {l : List ByteArray} (h : PartsAt s k f l) (hk : k < s.size) (hc : s[k] ≠ 47) : PartsAt s (k + 1) f l := by
  obtain ⟨h1, h2⟩ := h
  refine ⟨by omega, ?_⟩
  have hkl : k < s.data.toList.length := by rw [sz]; exact hk
  have hg : s.data.toList[k] = s[k] := by rw [toList_get, data_get s k hk]
  have hfl : f ≤ (s.data.toList.take k).length := by rw [List.length_take, sz]; omega
  rw [h2, List.drop_eq_getElem_cons hkl, hg, List.take_succ_eq_append_getElem hkl, hg, List.drop_append_of_le_length hfl]
  simp [partsA, hc]
theorem PartsAt.skip {s : ByteArray} {k : Nat} {l : List ByteArray} (h : PartsAt s k k l) (hk : k < s.size) (hc : s[k] = 47) : PartsAt s (k + 1) (k + 1) l := by
  obtain ⟨h1, h2⟩ := h
  refine ⟨by omega, ?_⟩
  have hkl : k < s.data.toList.length := by rw [sz]; exact hk
  have hg : s.data.toList[k] = s[k] := by rw [toList_get, data_get s k hk]
  have e1 : (s.data.toList.take k).drop k = [] := (PartsAt.piece (Nat.le_refl _) (by omega)).2 rfl
  have e2 : (s.data.toList.take (k + 1)).drop (k + 1) = [] := (PartsAt.piece (Nat.le_refl _) (by omega)).2 rfl
  rw [h2, List.drop_eq_getElem_cons hkl, hg, hc, e1, e2]
  simp [partsA]
theorem PartsAt.add {s : ByteArray} {k f : Nat} {l : List ByteArray} (h : PartsAt s k f l) (hk : k < s.size) (hc : s[k] = 47) (hf : f < k) : PartsAt s (k + 1) (k + 1) (l ++ [s.extract f k]) := by
  obtain ⟨h1, h2⟩ := h
  refine ⟨by omega, ?_⟩
  have hkl : k < s.data.toList.length := by rw [sz]; exact hk
  have hg : s.data.toList[k] = s[k] := by rw [toList_get, data_get s k hk]
  have e1 : ¬ (s.data.toList.take k).drop f = [] := fun e => by have := (PartsAt.piece h1 (by omega)).1 e; omega
  have e2 : (s.data.toList.take (k + 1)).drop (k + 1) = [] := (PartsAt.piece (Nat.le_refl _) (by omega)).2 rfl
  rw [h2, List.drop_eq_getElem_cons hkl, hg, hc, e2, List.map_append]
  simp only [partsA, if_true, List.reverse_eq_nil_iff, e1, if_false, List.map_cons, List.map_nil, List.reverse_nil, List.reverse_reverse, List.append_assoc, List.cons_append, List.nil_append]
  rw [ex_data]
theorem PartsAt.all {s : ByteArray} {l : List ByteArray} (h : PartsAt s s.size s.size l) : parts s.data.toList = l.map (fun x => x.data.toList) := by
  have e : (s.data.toList.take s.size).drop s.size = [] := (PartsAt.piece (Nat.le_refl _) (Nat.le_refl _)).2 rfl
  rw [h.2, e, List.drop_of_length_le (by rw [sz]; exact Nat.le_refl _)]
  simp [partsA]
theorem PartsAt.end {s : ByteArray} {f : Nat} {l : List ByteArray} (h : PartsAt s s.size f l) (hf : f < s.size) : parts s.data.toList = (l ++ [s.extract f s.size]).map (fun x => x.data.toList) := by
  have e : ¬ (s.data.toList.take s.size).drop f = [] := fun e => by have := (PartsAt.piece h.1 (Nat.le_refl _)).1 e; omega
  rw [h.2, List.drop_of_length_le (by rw [sz]; exact Nat.le_refl _)]
  simp only [partsA, List.reverse_eq_nil_iff, e, if_false, List.map_append, List.map_cons, List.map_nil, List.reverse_reverse]
  rw [ex_data]

/-- A new slice of strings. -/
def NewStrs (w : World) (l : List ByteArray) (e : Ending) (w' : World) : Prop :=
  ∃ v, e = .returned v ∧ w'.ownsRow w.heap.size 9 1 v l.length (l.map .string) ∧ Below w.heap.size w w'
def partsPost (s : ByteArray) (w : World) (e : Ending) (w' : World) : Prop := ∃ l, parts s.data.toList = l.map (fun x => x.data.toList) ∧ NewStrs w l e w'

theorem own_ge {w : World} {base : Nat} {e : TypeId} {sz n : Nat} {v : Value} {xs : List Value} (h : w.ownsRow base e sz v n xs) : ∀ k, v.ownBlock = some k → base ≤ k := by
  intro k hk
  obtain ⟨_, ⟨rfl, h0⟩ | ⟨g, cap, cur, rfl, hb, _⟩⟩ := h
  · cases hk
  · cases hk; exact hb
theorem app_below {w wr w1 : World} {o : Value} {n : Nat} {xs : List Value} (hb : Below w.heap.size w wr) (ho : wr.ownsRow w.heap.size 9 1 o n xs) (X : Obj) (hg : (wr.alloc X).grownBy w1 o.ownBlock) : Below w.heap.size w w1 :=
  (hb.alloc hb.size X).grown hg (by have := hb.size; rw [World.size_alloc]; omega) (own_ge ho)

set_option maxHeartbeats 1000000 in
theorem parts_any (s : ByteArray) (w : World) (hs : s.size ≤ 1048576) : Calls Tryd.prog 20 #[.string s] w (partsPost s w) := by
  obtain ⟨i0, hi, hz0, hz1, hz2⟩ := info_parts info9
  have hs1 : (s.size : Int) ≤ 1048576 := by omega
  go_enter Tryd.func20, Tryd.ntmps20
  go_wp2
  go_loopw [3, 4, 5] (fun o f i wr => ∃ (k f' : Nat) (l : List ByteArray), i = .int .i64 k ∧ f = .int .i64 f' ∧ l.length ≤ k ∧ Below w.heap.size w wr ∧ wr.ownsRow w.heap.size 9 1 o l.length (l.map .string) ∧ ((k ≤ s.size ∧ f' ≤ k ∧ PartsAt s k f' l) ∨ (k = s.size + 1 ∧ f' ≤ k ∧ parts s.data.toList = l.map (fun x => x.data.toList)))) (fun _ _ i _ => s.size + 1 - (intOf i).toNat)
  case atStart => exact ⟨0, 0, [], rfl, rfl, Nat.zero_le _, Below.refl _ _, ⟨rfl, .inl ⟨rfl, rfl⟩⟩, .inl ⟨Nat.zero_le _, Nat.le_refl _, PartsAt.start s⟩⟩
  case round =>
    obtain ⟨k, f, l, rfl, rfl, hl, hb, ho, hr⟩ := hrel
    have HB := Lib.hid hb
    have HO := Lib.hid ho
    clear hb ho
    rcases hr with ⟨hk, hf, hp⟩ | ⟨hk, hf, hp⟩
    · have HP := Lib.hid hp
      clear hp
      by_cases hlt : k < s.size
      · by_cases hc : s[k] = 47
        · have hcb : ((s[k].toNat : Int) == 47) = true := by rw [hc]; rfl
          have HC := Lib.hid hc
          clear hc
          by_cases hfk : f < k
          · have hfk1 : (f : Int) < k := by omega
            go_wp2_with (at_builtin; refine wpList_append_own _ rfl _ _ 23 rfl w.heap.size 9 i0 (.string ByteArray.empty) 1 16 Tryd.underlying23 hi hz0 hz1 hz2 rfl (by decide) _ _ _ rfl (HO.out.alloc _) ⟨wr.heap.size, 0, none⟩ 1 1 [.string (s.extract f k)] rfl rfl (cell_one_new _ _ _) (by simp [Value.oneCell']) (by unfold maxLen; omega) (by omega) (by have := HB.out.size; simp; omega) ?_; intro v' w1 hown' hgrow _)
            have HB1 := Lib.hid (app_below HB.out HO.out _ hgrow)
            have HO1 := Lib.hid hown'
            clear hgrow hown'
            go_wp2
            go_roundw
            case rel => exact ⟨k + 1, k + 1, l ++ [s.extract f k], by go_num, by go_num, by simp; omega, HB1.out, by simpa using HO1.out, .inl ⟨by omega, Nat.le_refl _, HP.out.add hlt HC.out hfk⟩⟩
            case measure => simp [intOf]; omega
          · obtain rfl : f = k := by omega
            go_wp2
            go_roundw
            case rel => exact ⟨f + 1, f + 1, l, by go_num, by go_num, by omega, HB.out, HO.out, .inl ⟨by omega, Nat.le_refl _, HP.out.skip hlt HC.out⟩⟩
            case measure => simp [intOf]; omega
        · have hcb : ((s[k].toNat : Int) == 47) = false := by
            simp; exact fun h => hc (UInt8.toNat_inj.1 (by have e : (47 : UInt8).toNat = 47 := rfl; omega))
          have HC := Lib.hid hc
          clear hc
          go_wp2
          go_roundw
          case rel => exact ⟨k + 1, f, l, by go_num, rfl, by omega, HB.out, HO.out, .inl ⟨by omega, by omega, HP.out.go hlt HC.out⟩⟩
          case measure => simp [intOf]; omega
      · obtain rfl : k = s.size := by omega
        by_cases hfk : f < s.size
        · have hfk1 : (f : Int) < s.size := by omega
          go_wp2_with (at_builtin; refine wpList_append_own _ rfl _ _ 23 rfl w.heap.size 9 i0 (.string ByteArray.empty) 1 16 Tryd.underlying23 hi hz0 hz1 hz2 rfl (by decide) _ _ _ rfl (HO.out.alloc _) ⟨wr.heap.size, 0, none⟩ 1 1 [.string (s.extract f s.size)] rfl rfl (cell_one_new _ _ _) (by simp [Value.oneCell']) (by unfold maxLen; omega) (by omega) (by have := HB.out.size; simp; omega) ?_; intro v' w1 hown' hgrow _)
          have HB1 := Lib.hid (app_below HB.out HO.out _ hgrow)
          have HO1 := Lib.hid hown'
          clear hgrow hown'
          go_wp2
          go_roundw
          case rel => exact ⟨s.size + 1, s.size + 1, l ++ [s.extract f s.size], by go_num, by go_num, by simp; omega, HB1.out, by simpa using HO1.out, .inr ⟨rfl, Nat.le_refl _, HP.out.end hfk⟩⟩
          case measure => simp [intOf]
        · obtain rfl : f = s.size := by omega
          go_wp2
          go_roundw
          case rel => exact ⟨s.size + 1, s.size + 1, l, by go_num, by go_num, by omega, HB.out, HO.out, .inr ⟨rfl, Nat.le_refl _, HP.out.all⟩⟩
          case measure => simp [intOf]
    · subst hk
      have HP := Lib.hid hp
      clear hp
      go_wp2
      go_ret
      exact ⟨l, HP.out, _, rfl, HO.out, HB.out⟩
end Go.Proofs.YtinmdegmnepheaaDoor
