import Derived.Test.YtmfbmjnoepcigaaGreatDoorPa
import Derived.RangeFuncNested
import Derived.RangeFuncBound
import Derived.RangeFuncCalls
import Derived.RangeFuncLeaves
import Derived.Shelf.Abstract
import Derived.Shelf.RegionOpen
import Derived.OwnWalkIn
import Derived.TacticsInMore
import Derived.LoopNIn
import Derived.LoopIn
namespace Go.Proofs.YtmfbmjnoepcigaaGreatDoor.Pp
open Go.RowKit Go.Shelf
attribute [local go_sem] Oper.semAt_some

/-- How much of the text is left in the iterator's own cell. -/
def left (Bn : Nat) (w : World) : Nat := match w.cell? ⟨Bn, 0, none⟩ with
  | some (.string r) => r.size
  | _ => 0
theorem left_eq {Bn : Nat} {w : World} {r : ByteArray} (h : w.cell? ⟨Bn, 0, none⟩ = some (.string r)) : left Bn w = r.size := by simp [left, h]

set_option maxHeartbeats 1000000 in
/-- The iterator: each name goes to yield, till that says no. J: what holds between two rounds, behind the names that have come; the iterator writes its own cell Bn alone, and draws. -/
theorem names_in (n l Bn : Nat) (s : ByteArray) (J : List ByteArray → World → Prop) (Jx : World → Prop) (hs : s.size ≤ 1000000)
    (hY : ∀ pre x W, J pre W → x.data.toList ∈ parts s.data.toList → x.size ≤ s.size → pre.length < s.size → YieldAt Fence.wide (n - 1) Tryz.prog l #[.string x] W fun e W' =>
      (e = .returned (.bool true) ∧ J (pre ++ [x]) W' ∧ W'.heap[Bn]? = W.heap[Bn]?) ∨ (e = .returned (.bool false) ∧ Jx W'))
    (hC : ∀ pre W v, J pre W → J pre (W.setCell ⟨Bn, 0, none⟩ v)) (hD : ∀ pre W q, J pre W → J pre (W.drewN q))
    (W : World) (hc : W.cell? ⟨Bn, 0, none⟩ = some (.string s)) (hf : W.frozen? ⟨Bn, 0, none⟩ = false) (h0 : J [] W) :
    CallsIn Fence.wide n Tryz.prog 101 #[.func (.yield l) #[] #[], .pointer (some ⟨Bn, 0, none⟩)] W fun e W' => (∃ v, e = .returned v) ∧
      ((∃ xs, xs.map (fun x : ByteArray => x.data.toList) = parts s.data.toList ∧ J xs W') ∨ Jx W') := by
  refine callsIn_of_wp Tryz.func101 rfl trivial ?_ rfl
  simp only [Tryz.ntmps101, List.size_toArray, List.length_cons, List.length_nil, Nat.reduceAdd, Nat.reduceSub, Array.replicate_succ, Array.replicate_zero, List.push_toArray, List.append_toArray, List.nil_append, List.cons_append]
  have HY := Lib.hid hY
  have HC := Lib.hid hC
  have HD := Lib.hid hD
  have H0 := Lib.hid h0
  have HCell := Lib.hid hc
  have HF := Lib.hid hf
  clear hY hC hD h0 hc hf
  gi_wp2
  gi_loopw [3] (fun _ wr => ∃ (pre : List ByteArray) (r : ByteArray), wr.cell? ⟨Bn, 0, none⟩ = some (.string r) ∧ wr.frozen? ⟨Bn, 0, none⟩ = false ∧ pre.length + r.size ≤ s.size ∧ parts s.data.toList = pre.map (fun x : ByteArray => x.data.toList) ++ parts r.data.toList ∧ J pre wr)
    (fun _ wr => left Bn wr)
  case atStart =>
    exact ⟨[], s, HCell.out, HF.out, by simp, by simp, H0.out⟩
  case round =>
    obtain ⟨pre, r, hcr, hfr, hl, hp, hJ⟩ := hrel
    have HP := Lib.hid hp
    have HJ := Lib.hid hJ
    have HL := Lib.hid hl
    clear hp hJ hl
    by_cases hr : r.data.toList = []
    · have hr1 : r.toList = [] := by rw [toList_data]; exact hr
      have HR := Lib.hid hr
      clear hr
      gi_wp2
      go_end0
      exact ⟨⟨_, rfl⟩, .inl ⟨pre, by rw [HP.out, HR.out]; simp [parts_nil], HJ.out⟩⟩
    · have hr1 : r.toList.isEmpty = false := by rw [toList_data]; cases hh : r.data.toList with | nil => exact absurd hh hr | cons => rfl
      have HR := Lib.hid hr
      clear hr
      rcases Int.lt_or_le (Lib.indexByte r.data.toList 47) 0 with hi | hi
      · have HI : Hid (Lib.indexByte r.data.toList 47 = -1) := Lib.hid (by have := Lib.indexByte_ge r.data.toList 47; omega)
        clear hi
        gi_wp2_with fail
        refine ⟨trivial, fun h => (by cases h), ?_⟩
        refine (callsIn_wide.2 (cut_none 47 r _ HI.out)).mono ?_
        rintro e w' ⟨rfl, q, rfl⟩
        have HX : Hid (r.data.toList ≠ []) := HR
        have hrz : 0 < r.size := by rw [← sz]; exact List.length_pos_iff.2 HR.out
        have HPE := Lib.hid (parts_end r.data.toList (no_stroke HI.out))
        obtain ⟨fn, tmps, assign, body, hy, hR⟩ := HY.out pre r (wr.drewN q) (HD.out _ _ _ HJ.out) (by rw [HP.out, HPE.out, if_neg HX.out]; simp) (by have := HL.out; omega) (by have := HL.out; omega)
        gi_wp2
        refine ⟨fun h => (by cases h), hR.mono ?_⟩
        rintro e W3 (⟨rfl, hJ3, hk3⟩ | ⟨rfl, hJx3⟩)
        · have hc3 : W3.cell? ⟨Bn, 0, none⟩ = some (.string r) := (World.cell?_of_block (w := wr.drewN q) (a := ⟨Bn, 0, none⟩) hk3).trans hcr
          have hf3 : W3.frozen? ⟨Bn, 0, none⟩ = false := (World.frozen?_of_block (w := wr.drewN q) (a := ⟨Bn, 0, none⟩) hk3).trans hfr
          have HJ3 := Lib.hid hJ3
          clear hJ3 hk3 hy hR
          gi_wp2
          have e1 : (W3.setCell ⟨Bn, 0, none⟩ (.string ⟨#[]⟩)).cell? ⟨Bn, 0, none⟩ = some (.string ⟨#[]⟩) := World.cell?_setCell_same _ _ _ hc3
          go_roundw
          case rel => exact ⟨pre ++ [r], ⟨#[]⟩, e1, by rw [World.frozen?_setCell]; exact hf3, by have := HL.out; have e9 : ({ data := #[] } : ByteArray).size = 0 := rfl; simp only [List.length_append, List.length_cons, List.length_nil]; omega, by rw [HP.out, HPE.out, if_neg HR.out, show (({ data := #[] } : ByteArray).data.toList) = [] from rfl, parts_nil]; simp, HC.out _ _ _ HJ3.out⟩
          case measure => rw [left_eq e1, left_eq hcr]; exact hrz
        · gi_wp2
          refine bodyPost_ret (results_none rfl _ _ _) rfl ?_
          exact ⟨⟨_, rfl⟩, .inr hJx3⟩
      · obtain ⟨i, hi'⟩ : ∃ i : Nat, Lib.indexByte r.data.toList 47 = i := ⟨(Lib.indexByte r.data.toList 47).toNat, by omega⟩
        have HI := Lib.hid hi'
        have hilt : i < r.size := by have := (stroke_at hi').1; rwa [sz] at this
        have HPE : Hid (parts r.data.toList = (if (r.extract 0 i).data.toList = [] then [] else [(r.extract 0 i).data.toList]) ++ parts (r.extract (i + 1) r.size).data.toList) := Lib.hid (by
          obtain ⟨h1, h2, h3⟩ := stroke_at hi'
          have e1 : (r.extract 0 i).data.toList = r.data.toList.take i := by rw [ex_data]; simp
          have e2 : (r.extract (i + 1) r.size).data.toList = r.data.toList.drop (i + 1) := by rw [ex_data, List.take_of_length_le (by rw [sz]; exact Nat.le_refl _)]
          rw [e1, e2]
          conv => lhs; rw [h3]
          exact parts_cut _ _ h2)
        have hes : (r.extract 0 i).size = i := by simp [ByteArray.size_extract]; omega
        have HES := Lib.hid hes
        clear hi hi' hes
        gi_wp2_with fail
        refine ⟨trivial, fun h => (by cases h), ?_⟩
        refine (callsIn_wide.2 (cut_some 47 r _ i HI.out (by have := HL.out; omega))).mono ?_
        rintro e w' ⟨rfl, q, rfl⟩
        by_cases h0 : i = 0
        · subst h0
          have hx2 : (r.extract 0 0).data.toList = [] := by rw [ex_data]; simp
          have hx1 : (r.extract 0 0).toList = [] := by rw [toList_data]; exact hx2
          have HX := Lib.hid hx2
          have hcr2 : (wr.drewN q).cell? ⟨Bn, 0, none⟩ = some (.string r) := hcr
          clear hx2
          gi_wp2
          refine ⟨fun _ h => (by cases h), ?_⟩
          gi_wp2
          have e1 : ((wr.drewN q).setCell ⟨Bn, 0, none⟩ (.string (r.extract 1 r.size))).cell? ⟨Bn, 0, none⟩ = some (.string (r.extract 1 r.size)) := World.cell?_setCell_same _ _ _ hcr2
          go_roundw
          case rel => exact ⟨pre, r.extract 1 r.size, e1, by rw [World.frozen?_setCell]; exact hfr, by have := HL.out; simp [ByteArray.size_extract]; omega, by rw [HP.out, HPE.out, if_pos HX.out]; simp, HC.out _ _ _ (HD.out _ _ _ HJ.out)⟩
          case measure => rw [left_eq e1, left_eq hcr]; simp [ByteArray.size_extract]; omega
        · have HX : Hid ((r.extract 0 i).data.toList ≠ []) := Lib.hid (fun e => by have := congrArg List.length e; rw [sz, HES.out] at this; exact h0 this)
          have hx1 : (r.extract 0 i).toList.isEmpty = false := by rw [toList_data]; cases hh : (r.extract 0 i).data.toList with | nil => exact absurd hh HX.out | cons => rfl
          obtain ⟨fn, tmps, assign, body, hy, hR⟩ := HY.out pre (r.extract 0 i) (wr.drewN q) (HD.out _ _ _ HJ.out) (by rw [HP.out, HPE.out, if_neg HX.out]; simp) (by have := HL.out; simp [ByteArray.size_extract]; omega) (by have := HL.out; omega)
          gi_wp2
          refine ⟨fun h => (by cases h), hR.mono ?_⟩
          rintro e W3 (⟨rfl, hJ3, hk3⟩ | ⟨rfl, hJx3⟩)
          · have hc3 : W3.cell? ⟨Bn, 0, none⟩ = some (.string r) := (World.cell?_of_block (w := wr.drewN q) (a := ⟨Bn, 0, none⟩) hk3).trans hcr
            have hf3 : W3.frozen? ⟨Bn, 0, none⟩ = false := (World.frozen?_of_block (w := wr.drewN q) (a := ⟨Bn, 0, none⟩) hk3).trans hfr
            have HJ3 := Lib.hid hJ3
            clear hJ3 hk3 hy hR
            gi_wp2
            have e1 : (W3.setCell ⟨Bn, 0, none⟩ (.string (r.extract (i + 1) r.size))).cell? ⟨Bn, 0, none⟩ = some (.string (r.extract (i + 1) r.size)) := World.cell?_setCell_same _ _ _ hc3
            go_roundw
            case rel => exact ⟨pre ++ [(r.extract 0 i)], (r.extract (i + 1) r.size), e1, by rw [World.frozen?_setCell]; exact hf3, by have := HL.out; simp [ByteArray.size_extract]; omega, by rw [HP.out, HPE.out, if_neg HX.out]; simp, HC.out _ _ _ HJ3.out⟩
            case measure => rw [left_eq e1, left_eq hcr]; simp [ByteArray.size_extract]; omega
          · gi_wp2
            refine bodyPost_ret (results_none rfl _ _ _) rfl ?_
            exact ⟨⟨_, rfl⟩, .inr hJx3⟩
end Go.Proofs.YtmfbmjnoepcigaaGreatDoor.Pp
