/- A change of a mode by a text that is too long for digits; what is shown in any case. -/
import Derived.Test.YtpoicdpfjmeehaaDoorF
import Derived.Lib.SplitLaws
namespace Go.Proofs.YtpoicdpfjmeehaaDoor
open Go.RowKit

/-- Clauses, one behind the other. -/
def chS (dir : Bool) : Nat → List ByteArray → Option Nat
  | m, [] => some m
  | m, l :: r => match clauseS dir m l.data.toList with
    | none => none
    | some m' => chS dir m' r
def chEnd : Option Nat → Ending
  | none => .returned (.tuple #[.int .i64 0, .bool false])
  | some m => .returned (.tuple #[.int .i64 m, .bool true])

theorem octal_long (s : ByteArray) (w : World) (hs : 5 < s.size) : Calls Tryd.prog 16 #[.string s] w fun e w' => e = .returned (.tuple #[.int .i64 0, .bool false]) ∧ w' = w := by
  have h1 : (5 : Int) < s.size := by omega
  go_enter Tryd.func16, Tryd.ntmps16
  go_wp2
  exact bodyPost_ret (v := .tuple #[.int .i64 0, .bool false]) (by simp [results, Tryd.results16, go_sem]) rfl ⟨rfl, rfl⟩

theorem part_size (sep : ByteArray) : ∀ (n : Nat) (s : ByteArray), ∀ x ∈ Lib.splitB sep 0 n s, x.size ≤ s.size
  | 0, s, x, h => by
    rw [Lib.splitB_zero] at h
    rw [List.mem_singleton.1 h]; exact Nat.le_refl _
  | n + 1, s, x, h => by
    unfold Lib.splitB at h
    split at h
    · rw [List.mem_singleton.1 h]; exact Nat.le_refl _
    · rcases List.mem_cons.1 h with rfl | h
      · rw [ByteArray.size_extract]; exact Nat.le_trans (Nat.sub_le _ _) (Nat.min_le_right _ _)
      · refine Nat.le_trans (part_size sep n _ x h) ?_
        rw [ByteArray.size_extract]; exact Nat.le_trans (Nat.sub_le _ _) (Nat.min_le_right _ _)

set_option maxHeartbeats 4000000 in
theorem change_long (s : ByteArray) (m : Nat) (dir : Bool) (w : World) (hs : 5 < s.size) (hs2 : s.size ≤ 1000000000) (hr : rightB (m : Int) = true) (hm : m ≤ 3071) (v : Int) (hv : w.cell? ⟨4, 0, none⟩ = some (.int .i64 v)) :
    Calls Tryd.prog 20 #[.string s, .int .i64 m, .bool dir] w fun e w' => e = chEnd (chS dir m (Lib.splitB ⟨#[44]⟩ 0 (Lib.countB s ⟨#[44]⟩) s)) ∧ Below w.heap.size w w' := by
  obtain ⟨L, hL⟩ : ∃ L, Lib.splitB ⟨#[44]⟩ 0 (Lib.countB s ⟨#[44]⟩) s = L := ⟨_, rfl⟩
  rw [hL]
  have hlen : L.length = Lib.countB s ⟨#[44]⟩ + 1 := by rw [← hL]; exact Lib.splitB_all ⟨#[44]⟩ (by decide) 0 (Lib.countB s ⟨#[44]⟩) s rfl
  have HLEN := Lib.hid hlen
  have HPS : Hid (∀ x ∈ L, x.size ≤ s.size) := Lib.hid (by rw [← hL]; exact part_size ⟨#[44]⟩ (Lib.countB s ⟨#[44]⟩) s)
  have HL0 := Lib.hid hL
  clear hL hlen
  go_enter Tryd.func20, Tryd.ntmps20
  go_wp2_with fail
  refine (right_any _ _).mono ?_
  rintro e w' ⟨he, rfl⟩
  rw [hr] at he
  subst he
  clear hr
  go_wp2_with fail
  refine (octal_long s _ hs).mono ?_
  rintro e w1 ⟨rfl, rfl⟩
  go_wp2_with fail
  have hv2 : (w1.alloc (Obj.cells #[.int .i64 m, .bool dir] 50)).cell? ⟨4, 0, none⟩ = some (.int .i64 v) := by
    rw [((Below.refl w1.heap.size w1).alloc (Nat.le_refl _) _).cell (p := ⟨4, 0, none⟩) (World.block_lt_of_cell? w1 ⟨4, 0, none⟩ hv)]; exact hv
  refine (Tryd.strings_Split s ⟨#[44]⟩ v _ (by omega) hv2 (by decide)).mono ?_
  rintro e w2 ⟨rfl, rfl⟩
  rw [HL0.out, ← HLEN.out]
  have hz : (w1.alloc (Obj.cells #[.int .i64 m, .bool dir] 50)).heap.size = w1.heap.size + 1 := by simp
  have hrow : ((w1.alloc (Obj.cells #[.int .i64 m, .bool dir] 50)).alloc (Obj.cells (L.map Value.string).toArray 9)).heap[w1.heap.size + 1]? = some (.cells (L.map Value.string).toArray 9 (0, 0)) := by
    rw [← hz]; exact at_new _ _
  have hst : ((w1.alloc (Obj.cells #[.int .i64 m, .bool dir] 50)).alloc (Obj.cells (L.map Value.string).toArray 9)).heap[w1.heap.size]? = some (.cells #[.int .i64 m, .bool dir] 50 (0, 0)) := by
    rw [Below.heap_alloc _ _ _ (by rw [hz]; omega)]; exact at_new _ _
  have hbel : Below w1.heap.size w1 ((w1.alloc (Obj.cells #[.int .i64 m, .bool dir] 50)).alloc (Obj.cells (L.map Value.string).toArray 9)) := ((Below.refl _ _).alloc (Nat.le_refl _) _).alloc (by rw [hz]; omega) _
  have hsz : ((w1.alloc (Obj.cells #[.int .i64 m, .bool dir] 50)).alloc (Obj.cells (L.map Value.string).toArray 9)).heap.size = w1.heap.size + 2 := by simp
  rw [hz]
  generalize (w1.alloc (Obj.cells #[.int .i64 m, .bool dir] 50)).alloc (Obj.cells (L.map Value.string).toArray 9) = W0 at *
  have HROW := Lib.hid hrow
  have HST := Lib.hid hst
  have HBEL := Lib.hid hbel
  have HSZ := Lib.hid hsz
  have HM := Lib.hid hm
  have hLl : L.length ≤ 1000000001 := by
    have := Lib.countB_le ⟨#[44]⟩ (by decide) s.size s (Nat.le_refl _)
    rw [HLEN.out]; omega
  clear hrow hst hbel hsz hm hz hv hv2
  go_wp2
  go_loopw [12, 30] (fun v12 v30 wr => ∃ (k m' : Nat), k ≤ L.length ∧ v30 = .int .i64 k ∧ Hid (W0.grownBy wr (some w1.heap.size) ∧ wr.heap[w1.heap.size]? = some (.cells #[.int .i64 m', .bool dir] 50 (0, 0)) ∧ m' < 4096 ∧ chS dir m' (L.drop k) = chS dir m L)) (fun _ v30 _ => L.length - (intOf v30).toNat)
  case atStart => exact ⟨0, m, Nat.zero_le _, rfl, Lib.hid ⟨⟨rfl, rfl, rfl, Nat.le_refl _, fun _ _ _ => rfl⟩, HST.out, by have := HM.out; omega, rfl⟩⟩
  case round =>
    obtain ⟨k, m', hk, rfl, HH⟩ := hrel
    have hfin : Below w1.heap.size w1 wr := ⟨HH.out.1.os.trans HBEL.out.os, HH.out.1.tape.trans HBEL.out.tape, HH.out.1.output.trans HBEL.out.output, Nat.le_trans HBEL.out.size HH.out.1.size, fun j hj => (HH.out.1.block j (by have := HSZ.out; omega) (by simp; omega)).trans (HBEL.out.block j hj)⟩
    have HFIN := Lib.hid hfin
    clear hfin
    by_cases hlt : k < L.length
    · have hlt1 : (k : Int) < L.length := by omega
      have hrow : wr.heap[w1.heap.size + 1]? = some (.cells (L.map Value.string).toArray 9 (0, 0)) := by
        rw [HH.out.1.block (w1.heap.size + 1) (by have := HSZ.out; omega) (by simp)]; exact HROW.out
      have c1 := heap_cell hrow k
      have hcs : (L.map Value.string).toArray[k]? = some (.string L[k]) := by simp [hlt]
      rw [hcs] at c1
      have hdrop : L.drop k = L[k] :: L.drop (k + 1) := List.drop_eq_getElem_cons hlt
      have hsk : L[k].size ≤ 140737488351232 := by have := HPS.out L[k] (List.getElem_mem _); omega
      have HD := Lib.hid hdrop
      clear hcs hdrop hrow
      generalize L[k] = x at *
      go_wp2_with fail
      refine (clause_any w1.heap.size m' dir x _ hsk HH.out.2.2.1 HH.out.2.1).mono ?_
      rintro e w3 (⟨hcl, rfl, hg⟩ | ⟨m2, hcl, hm2, rfl, hg, hc2⟩)
      · have HE : Hid (chS dir m L = none) := Lib.hid (by rw [← HH.out.2.2.2, HD.out, chS, hcl])
        have HB3 : Hid (Below w1.heap.size w1 w3) := Lib.hid ⟨hg.os.trans HFIN.out.os, hg.tape.trans HFIN.out.tape, hg.output.trans HFIN.out.output, Nat.le_trans HFIN.out.size hg.size, fun j hj => (hg.block j (Nat.lt_of_lt_of_le hj HFIN.out.size) (by simp; omega)).trans (HFIN.out.block j hj)⟩
        clear hcl hg
        go_wp2
        exact bodyPost_ret (v := .tuple #[.int .i64 0, .bool false]) (by simp [results, Tryd.results20, go_sem]) rfl ⟨by rw [HE.out]; rfl, HB3.out⟩
      · have HN : Hid (W0.grownBy w3 (some w1.heap.size) ∧ w3.heap[w1.heap.size]? = some (.cells #[.int .i64 m2, .bool dir] 50 (0, 0)) ∧ m2 < 4096 ∧ chS dir m2 (L.drop (k + 1)) = chS dir m L) :=
          Lib.hid ⟨⟨hg.os.trans HH.out.1.os, hg.tape.trans HH.out.1.tape, hg.output.trans HH.out.1.output, Nat.le_trans HH.out.1.size hg.size, fun j hj hne => (hg.block j (Nat.lt_of_lt_of_le hj HH.out.1.size) hne).trans (HH.out.1.block j hj hne)⟩, hc2, hm2, by rw [← HH.out.2.2.2, HD.out, chS, hcl]⟩
        clear hcl hg hc2 hm2
        go_wp2
        go_roundw
        case rel => exact ⟨k + 1, m2, by omega, by go_num, HN⟩
        case measure => simp [intOf]; omega
    · have hlt1 : ¬ (k : Int) < L.length := by omega
      have HE : Hid (chS dir m L = some m') := Lib.hid (by rw [← HH.out.2.2.2, List.drop_of_length_le (by omega)]; rfl)
      have c0 := heap_cell HH.out.2.1 0
      go_wp2
      exact bodyPost_ret (v := .tuple #[.int .i64 m', .bool true]) (by simp [results, Tryd.results20, go_sem]) rfl ⟨by rw [HE.out]; rfl, HFIN.out⟩

/-- What the walks want of a world: bytealg's MaxLen holds a number. -/
def HasM (w : World) : Prop := ∃ v, w.cell? ⟨4, 0, none⟩ = some (.int .i64 v)
theorem ch_shown : chS false 511 (Lib.splitB ⟨#[44]⟩ 0 (Lib.countB ⟨#[117, 43, 115, 44, 103, 111, 45, 119]⟩ ⟨#[44]⟩) ⟨#[117, 43, 115, 44, 103, 111, 45, 119]⟩) = some 2541 := by decide +kernel
theorem may_1 : mayS 416 5 7 false 5 7 6 = true := by decide +kernel
theorem may_2 : mayS 416 5 7 false 6 7 6 = false := by decide +kernel
theorem text_1 : textS 0 2541 = [45, 114, 119, 115, 114, 45, 120, 114, 45, 120] := by decide +kernel

set_option maxHeartbeats 1000000 in
theorem shown_any (w : World) (hM : HasM w) : Calls Tryd.prog 11 #[] w fun e w' => e = .returned (.bool true) ∧ Below w.heap.size w w' := by
  obtain ⟨v, hv⟩ := hM
  go_enter Tryd.func11, Tryd.ntmps11
  go_wp2_with fail
  refine (change_long ⟨#[117, 43, 115, 44, 103, 111, 45, 119]⟩ 511 false _ (by decide) (by decide) (by decide +kernel) (by decide) v hv).mono ?_
  rintro e w1 ⟨he, hb⟩
  rw [ch_shown] at he
  replace he : e = .returned (.tuple #[.int .i64 2541, .bool true]) := he
  subst he
  have HB := Lib.hid hb
  clear hb hv
  go_wp2_with fail
  refine (may_any 416 5 7 false 5 7 6 _).mono ?_
  rintro e w2 ⟨he, rfl⟩
  rw [may_1] at he
  subst he
  go_wp2_with fail
  refine (may_any 416 5 7 false 6 7 6 _).mono ?_
  rintro e w2 ⟨he, rfl⟩
  rw [may_2] at he
  subst he
  go_wp2_with fail
  refine (text_any 0 2541 (by decide) (by decide +kernel) (by decide) _).mono ?_
  rintro e w3 ⟨s, hs, rfl, hb3⟩
  have HB3 := Lib.hid (HB.out.trans (hb3.mono HB.out.size))
  have heq : (s.toList == [45, 114, 119, 115, 114, 45, 120, 114, 45, 120]) = true := by rw [Lib.toList_data, hs, text_1]; rfl
  clear hs hb3
  go_wp2
  go_ret
  exact ⟨rfl, HB3.out⟩
end Go.Proofs.YtpoicdpfjmeehaaDoor
