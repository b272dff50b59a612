/- A change by any text. ModeChanges. -/
import Derived.Test.YtpoicdpfjmeehaaDoorY
namespace Go.Proofs.YtpoicdpfjmeehaaDoor
open Go.RowKit

set_option maxHeartbeats 4000000 in
theorem change_right (s : ByteArray) (m : Nat) (dir : Bool) (w : World) (hs2 : s.size ≤ 1000000000) (hr : rightB (m : Int) = true) (hm : m ≤ 3071) (hM : HasM w) (hE : HasE w) :
    Calls Tryd.prog 20 #[.string s, .int .i64 m, .bool dir] w fun e w' => e = chEnd (changeS dir m s.data.toList) ∧ Below w.heap.size w w' := by
  have HCA := Lib.hid (chS_A dir m s)
  obtain ⟨L, hL⟩ : ∃ L, Lib.splitB ⟨#[44]⟩ 0 (Lib.countB s ⟨#[44]⟩) s = L := ⟨_, rfl⟩
  rw [hL] at HCA
  have hlen : L.length = Lib.countB s ⟨#[44]⟩ + 1 := by rw [← hL]; exact Lib.splitB_all ⟨#[44]⟩ (by decide) 0 (Lib.countB s ⟨#[44]⟩) s rfl
  have HLEN := Lib.hid hlen
  have HPS : Hid (∀ x ∈ L, x.size ≤ s.size) := Lib.hid (by rw [← hL]; exact part_size ⟨#[44]⟩ (Lib.countB s ⟨#[44]⟩) s)
  have HL0 := Lib.hid hL
  clear hL hlen
  go_enter Tryd.func20, Tryd.ntmps20
  go_wp2_with fail
  refine (right_any _ _).mono ?_
  rintro e w' ⟨he, rfl⟩
  rw [hr] at he
  subst he
  clear hr
  go_wp2_with fail
  refine (octal_all s _ hE).mono ?_
  rintro e w1 ⟨he, hb1⟩
  obtain ⟨v, hv⟩ := hM.below hb1
  have HB1 := Lib.hid hb1
  clear hb1 hM hE
  cases ho : octS s.data.toList with
  | some n =>
    rw [ho] at he
    replace he : e = .returned (.tuple #[.int .i64 n, .bool true]) := he
    subst he
    have HEE : Hid (changeS dir m s.data.toList = some n) := Lib.hid (by unfold changeS; rw [ho])
    clear ho hv
    go_wp2
    exact bodyPost_ret (v := .tuple #[.int .i64 n, .bool true]) (by simp [results, Tryd.results20, go_sem]) rfl ⟨by rw [HEE.out]; rfl, HB1.out⟩
  | none =>
  rw [ho] at he
  replace he : e = .returned (.tuple #[.int .i64 0, .bool false]) := he
  subst he
  have HCC : Hid (changeS dir m s.data.toList = chS dir m L) := Lib.hid (by unfold changeS; rw [ho]; exact HCA.out.symm)
  clear ho
  go_wp2_with fail
  have hv2 : (w1.alloc (Obj.cells #[.int .i64 m, .bool dir] 50)).cell? ⟨4, 0, none⟩ = some (.int .i64 v) := by
    rw [((Below.refl w1.heap.size w1).alloc (Nat.le_refl _) _).cell (p := ⟨4, 0, none⟩) (World.block_lt_of_cell? w1 ⟨4, 0, none⟩ hv)]; exact hv
  refine (Tryd.strings_Split s ⟨#[44]⟩ v _ (by omega) hv2 (by decide)).mono ?_
  rintro e w2 ⟨rfl, rfl⟩
  rw [HL0.out, ← HLEN.out]
  have hz : (w1.alloc (Obj.cells #[.int .i64 m, .bool dir] 50)).heap.size = w1.heap.size + 1 := by simp
  have hrow : ((w1.alloc (Obj.cells #[.int .i64 m, .bool dir] 50)).alloc (Obj.cells (L.map Value.string).toArray 9)).heap[w1.heap.size + 1]? = some (.cells (L.map Value.string).toArray 9 (0, 0)) := by
    rw [← hz]; exact at_new _ _
  have hst : ((w1.alloc (Obj.cells #[.int .i64 m, .bool dir] 50)).alloc (Obj.cells (L.map Value.string).toArray 9)).heap[w1.heap.size]? = some (.cells #[.int .i64 m, .bool dir] 50 (0, 0)) := by
    rw [Below.heap_alloc _ _ _ (by rw [hz]; omega)]; exact at_new _ _
  have hbel : Below w1.heap.size w1 ((w1.alloc (Obj.cells #[.int .i64 m, .bool dir] 50)).alloc (Obj.cells (L.map Value.string).toArray 9)) := ((Below.refl _ _).alloc (Nat.le_refl _) _).alloc (by rw [hz]; omega) _
  have hsz : ((w1.alloc (Obj.cells #[.int .i64 m, .bool dir] 50)).alloc (Obj.cells (L.map Value.string).toArray 9)).heap.size = w1.heap.size + 2 := by simp
  rw [hz]
  generalize (w1.alloc (Obj.cells #[.int .i64 m, .bool dir] 50)).alloc (Obj.cells (L.map Value.string).toArray 9) = W0 at *
  have HROW := Lib.hid hrow
  have HST := Lib.hid hst
  have HBEL := Lib.hid hbel
  have HSZ := Lib.hid hsz
  have HM := Lib.hid hm
  have hLl : L.length ≤ 1000000001 := by
    have := Lib.countB_le ⟨#[44]⟩ (by decide) s.size s (Nat.le_refl _)
    rw [HLEN.out]; omega
  clear hrow hst hbel hsz hm hz hv hv2
  go_wp2
  go_loopw [12, 30] (fun v12 v30 wr => ∃ (k m' : Nat), k ≤ L.length ∧ v30 = .int .i64 k ∧ Hid (W0.grownBy wr (some w1.heap.size) ∧ wr.heap[w1.heap.size]? = some (.cells #[.int .i64 m', .bool dir] 50 (0, 0)) ∧ m' < 4096 ∧ chS dir m' (L.drop k) = chS dir m L)) (fun _ v30 _ => L.length - (intOf v30).toNat)
  case atStart => exact ⟨0, m, Nat.zero_le _, rfl, Lib.hid ⟨⟨rfl, rfl, rfl, Nat.le_refl _, fun _ _ _ => rfl⟩, HST.out, by have := HM.out; omega, rfl⟩⟩
  case round =>
    obtain ⟨k, m', hk, rfl, HH⟩ := hrel
    have hfin : Below w1.heap.size w1 wr := ⟨HH.out.1.os.trans HBEL.out.os, HH.out.1.tape.trans HBEL.out.tape, HH.out.1.output.trans HBEL.out.output, Nat.le_trans HBEL.out.size HH.out.1.size, fun j hj => (HH.out.1.block j (by have := HSZ.out; omega) (by simp; omega)).trans (HBEL.out.block j hj)⟩
    have HFIN := Lib.hid hfin
    clear hfin
    by_cases hlt : k < L.length
    · have hlt1 : (k : Int) < L.length := by omega
      have hrow : wr.heap[w1.heap.size + 1]? = some (.cells (L.map Value.string).toArray 9 (0, 0)) := by
        rw [HH.out.1.block (w1.heap.size + 1) (by have := HSZ.out; omega) (by simp)]; exact HROW.out
      have c1 := heap_cell hrow k
      have hcs : (L.map Value.string).toArray[k]? = some (.string L[k]) := by simp [hlt]
      rw [hcs] at c1
      have hdrop : L.drop k = L[k] :: L.drop (k + 1) := List.drop_eq_getElem_cons hlt
      have hsk : L[k].size ≤ 140737488351232 := by have := HPS.out L[k] (List.getElem_mem _); omega
      have HD := Lib.hid hdrop
      clear hcs hdrop hrow
      generalize L[k] = x at *
      go_wp2_with fail
      refine (clause_any w1.heap.size m' dir x _ hsk HH.out.2.2.1 HH.out.2.1).mono ?_
      rintro e w3 (⟨hcl, rfl, hg⟩ | ⟨m2, hcl, hm2, rfl, hg, hc2⟩)
      · have HE : Hid (chS dir m L = none) := Lib.hid (by rw [← HH.out.2.2.2, HD.out, chS, hcl])
        have HB3 : Hid (Below w1.heap.size w1 w3) := Lib.hid ⟨hg.os.trans HFIN.out.os, hg.tape.trans HFIN.out.tape, hg.output.trans HFIN.out.output, Nat.le_trans HFIN.out.size hg.size, fun j hj => (hg.block j (Nat.lt_of_lt_of_le hj HFIN.out.size) (by simp; omega)).trans (HFIN.out.block j hj)⟩
        clear hcl hg
        go_wp2
        exact bodyPost_ret (v := .tuple #[.int .i64 0, .bool false]) (by simp [results, Tryd.results20, go_sem]) rfl ⟨by rw [HCC.out, HE.out]; rfl, HB1.out.trans (HB3.out.mono HB1.out.size)⟩
      · have HN : Hid (W0.grownBy w3 (some w1.heap.size) ∧ w3.heap[w1.heap.size]? = some (.cells #[.int .i64 m2, .bool dir] 50 (0, 0)) ∧ m2 < 4096 ∧ chS dir m2 (L.drop (k + 1)) = chS dir m L) :=
          Lib.hid ⟨⟨hg.os.trans HH.out.1.os, hg.tape.trans HH.out.1.tape, hg.output.trans HH.out.1.output, Nat.le_trans HH.out.1.size hg.size, fun j hj hne => (hg.block j (Nat.lt_of_lt_of_le hj HH.out.1.size) hne).trans (HH.out.1.block j hj hne)⟩, hc2, hm2, by rw [← HH.out.2.2.2, HD.out, chS, hcl]⟩
        clear hcl hg hc2 hm2
        go_wp2
        go_roundw
        case rel => exact ⟨k + 1, m2, by omega, by go_num, HN⟩
        case measure => simp [intOf]; omega
    · have hlt1 : ¬ (k : Int) < L.length := by omega
      have HE : Hid (chS dir m L = some m') := Lib.hid (by rw [← HH.out.2.2.2, List.drop_of_length_le (by omega)]; rfl)
      have c0 := heap_cell HH.out.2.1 0
      go_wp2
      exact bodyPost_ret (v := .tuple #[.int .i64 m', .bool true]) (by simp [results, Tryd.results20, go_sem]) rfl ⟨by rw [HCC.out, HE.out]; rfl, HB1.out.trans (HFIN.out.mono HB1.out.size)⟩

theorem change_wrong (s : ByteArray) (m : Int) (dir : Bool) (w : World) (hr : rightB m = false) :
    Calls Tryd.prog 20 #[.string s, .int .i64 m, .bool dir] w fun e w' => e = chEnd none ∧ w' = w := by
  go_enter Tryd.func20, Tryd.ntmps20
  go_wp2_with fail
  refine (right_any _ _).mono ?_
  rintro e w1 ⟨he, rfl⟩
  rw [hr] at he
  subst he
  go_wp2
  exact bodyPost_ret (v := .tuple #[.int .i64 0, .bool false]) (by simp [results, Tryd.results20, go_sem]) rfl ⟨rfl, rfl⟩
/-- What a change of any number makes. -/
def changeB (dir : Bool) (m : Int) (l : Bytes) : Option Nat := if rightB m = true then changeS dir m.toNat l else none
def ChPost (o : Option Nat) (w : World) (e : Ending) (w' : World) : Prop := e = chEnd o ∧ Below w.heap.size w w'
theorem change_all (s : ByteArray) (m : Int) (dir : Bool) (w : World) (hs : s.size ≤ 1000000000) (hM : HasM w) (hE : HasE w) : Calls Tryd.prog 20 #[.string s, .int .i64 m, .bool dir] w (ChPost (changeB dir m s.data.toList) w) := by
  unfold changeB
  cases hr : rightB m with
  | true =>
    obtain ⟨n, rfl, hn⟩ := right_nat hr
    exact change_right s n dir w hs hr hn hM hE
  | false =>
    refine (change_wrong s m dir w hr).mono ?_
    rintro e w' ⟨rfl, rfl⟩
    exact ⟨rfl, Below.refl _ _⟩
theorem rchange_all (s : ByteArray) (m : Int) (dir : Bool) (w : World) (hs : s.size ≤ 1000000000) (hm : m < 9223372036854775808) : Calls Tryd.prog 21 #[.string s, .int .i64 m, .bool dir] w (ChPost (changeB dir m s.data.toList) w) := by
  unfold changeB
  cases hr : rightB m with
  | true =>
    obtain ⟨n, rfl, hn⟩ := right_nat hr
    exact rchange_right s n dir w (by omega) hr hn
  | false =>
    refine (rchange_wrong s m dir w hr hm).mono ?_
    rintro e w' ⟨rfl, rfl⟩
    exact ⟨rfl, Below.refl _ _⟩
theorem chEnd_cases (o : Option Nat) : ∃ (n : Nat) (b : Bool), chEnd o = .returned (.tuple #[.int .i64 n, .bool b]) := by
  cases o with
  | none => exact ⟨0, false, rfl⟩
  | some n => exact ⟨n, true, rfl⟩
set_option maxHeartbeats 1000000 in
/-- ModeChanges. -/
theorem changes_law (s : ByteArray) (m : Int) (dir : Bool) (w : World) (hm : m < 9223372036854775808) (hs : s.size ≤ 1048576) (hM : HasM w) (hE : HasE w) :
    Calls Tryd.prog 5 #[.string s, .int .i64 m, .bool dir] w fun e w' => e = .returned (.bool true) ∧ Below w.heap.size w w' := by
  have HMS := Lib.hid (And.intro hm hs)
  clear hm hs
  obtain ⟨n, b, ho⟩ := chEnd_cases (changeB dir m s.data.toList)
  go_enter Tryd.func5, Tryd.ntmps5
  go_wp2_with fail
  refine (shown_any _ hM).mono ?_
  rintro e w1 ⟨rfl, hb⟩
  have HB := Lib.hid hb
  have hE1 := hE.below hb
  have hM1 := hM.below hb
  clear hb
  go_wp2_with fail
  refine (change_all s m dir _ (by have := HMS.out.2; omega) hM1 hE1).mono ?_
  rintro e w2 ⟨he, hb⟩
  rw [ho] at he
  subst he
  have HB2 := Lib.hid (HB.out.trans (hb.mono HB.out.size))
  clear hb
  go_wp2_with fail
  refine (rchange_all s m dir _ (by have := HMS.out.2; omega) HMS.out.1).mono ?_
  rintro e w3 ⟨he, hb⟩
  rw [ho] at he
  subst he
  have HB3 := Lib.hid (HB2.out.trans (hb.mono HB2.out.size))
  clear hb ho
  go_wp2
  go_ret
  exact ⟨rfl, HB3.out⟩
end Go.Proofs.YtpoicdpfjmeehaaDoor
