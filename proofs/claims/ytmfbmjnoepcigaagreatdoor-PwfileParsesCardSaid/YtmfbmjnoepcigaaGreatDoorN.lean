/- Clone, Change. -/
import Derived.Test.YtmfbmjnoepcigaaGreatDoorM
import Derived.Laws.OwnMore
namespace Go.Proofs.YtmfbmjnoepcigaaGreatDoor
open Go.RowKit

theorem cells_one : ∀ (L : List UserS), ∀ u ∈ cellsU L, u.oneCell' = true
  | [], u, h => by cases h
  | x :: L, u, h => by
    rw [cellsU_cons] at h
    rcases List.mem_append.1 h with h | h
    · simp [userC] at h
      rcases h with rfl | rfl | rfl | rfl | rfl | rfl <;> rfl
    · exact cells_one L u h
theorem inU_cells {w : World} {ad : Addr} {cap : Nat} {L : List UserS} (h : InU w (.slice (some ad) L.length cap) L) (j : Nat) (u : Value) (hj : (cellsU L)[j]? = some u) : w.cell? (ad.add j) = some u := by
  obtain ⟨a', cap', hv, hc⟩ := h
  obtain ⟨rfl, rfl⟩ : some ad = a' ∧ cap = cap' := by simp at hv; exact ⟨hv.1, hv.2⟩
  have hlt : j < (cellsU L).length := (List.getElem?_eq_some_iff.1 hj).1
  rw [cellsU_len] at hlt
  have hq : j / 6 < L.length := by omega
  have hr : j % 6 < 6 := Nat.mod_lt _ (by decide)
  obtain ⟨b, off, hb, h⟩ := hc (j / 6) hq
  obtain rfl : ad = ⟨b, off, none⟩ := by simpa using hb
  have h1 := h (j % 6) hr
  rw [← cellsU_at L (j / 6) hq (j % 6) hr, show j / 6 * 6 + j % 6 = j by omega, hj, show off + j / 6 * 6 + j % 6 = off + j by omega] at h1
  have hadd : (⟨b, off, none⟩ : Addr).add j = ⟨b, off + j, none⟩ := by unfold Addr.add; split <;> simp_all
  rw [hadd]; exact h1
set_option maxHeartbeats 1000000 in
set_option maxRecDepth 100000 in
theorem clone_any (a : Addr) (cap : Nat) (L : List UserS) (w : World) (hF : InU w (.slice (some a) L.length cap) L) (hn : L.length ≤ 1000) :
    Calls Tryz.prog 32 #[.slice (some a) L.length cap] w fun e w' => ∃ v, e = .returned v ∧ OwnU w' w.heap.size v L ∧ Below w.heap.size w w' := by
  obtain ⟨i0, hi, hz0, hz1, hz4⟩ := info_parts info33
  have HF := Lib.hid hF
  have HN := Lib.hid hn
  have hne : ∀ W : World, (Sem.run Tryz.prog (binOp BinOp.eql 23 (.slice (some a) L.length cap) (.slice none 0 0)) W) = .ok (.bool false) W := fun W => rfl
  clear hF hn
  go_enter Tryz.func32, Tryz.ntmps32
  go_wp2_with (at_builtin; refine wpList_append_own _ rfl _ _ 23 rfl w.heap.size 29 i0 (.agg (userC zeroU)) 6 80 Tryz.underlying23 hi hz0 hz1 hz4 rfl (by decide) _ _ _ rfl (World.ownsRow_made _ #[] 0 (Nat.le_refl _) (by unfold maxLen; omega) rfl) a L.length cap (cellsU L) rfl (cellsU_len L) (fun j u hj => inU_cells (HF.out.below ((Below.refl _ _).alloc (Nat.le_refl _) _)) j u hj) (cells_one L) (by unfold maxLen; have := HN.out; omega) (by have := HN.out; omega) (by simp) ?_; intro v' w6 hown' hgrow _)
  have HO : Hid (OwnU w6 w.heap.size v' L) := Lib.hid (by unfold OwnU; rw [Nat.zero_add, List.nil_append] at hown'; exact hown')
  have HB := Lib.hid (below_grown ((Below.refl w.heap.size w).alloc (Nat.le_refl _) _) (Nat.le_refl _) hgrow (fun k hk => Nat.le_of_eq (Option.some.inj hk)))
  clear hown' hgrow
  go_wp2
  go_ret
  exact ⟨v', rfl, HO.out, HB.out⟩
def passU (p : ByteArray) (u : UserS) : UserS := ⟨u.name, p, u.id, u.group, u.home, u.shell⟩
theorem cellsU_set (p : ByteArray) : ∀ (L : List UserS) (k : Nat) (hk : k < L.length), cellsU (L.set k (passU p L[k])) = (cellsU L).set (k * 6 + 1) (.string p)
  | [], k, hk => absurd hk (Nat.not_lt_zero k)
  | u :: L, 0, _ => by
    rw [List.set_cons_zero, cellsU_cons, cellsU_cons]
    rfl
  | u :: L, k + 1, hk => by
    rw [List.set_cons_succ, cellsU_cons, cellsU_cons]
    have ih := cellsU_set p L k (by simpa using hk)
    rw [List.getElem_cons_succ, ih, List.set_append_right _ _ (by rw [userC_len]; omega), userC_len, show (k + 1) * 6 + 1 - 6 = k * 6 + 1 by omega]
/-- What Change tells. -/
def ChangeP (x p : ByteArray) (L : List UserS) (w : World) (e : Ending) (w' : World) : Prop :=
  Below w.heap.size w w' ∧ ((∃ k : Nat, ∃ h : k < L.length, isName x L[k] = true ∧ (∀ j (hj : j < k), isName x (L[j]'(by omega)) = false) ∧ ∃ v, e = .returned (.tuple #[v, .bool true]) ∧ OwnU w' w.heap.size v (L.set k (passU p L[k]))) ∨
    ((∀ f ∈ L, isName x f = false) ∧ e = .returned (.tuple #[.slice none 0 0, .bool false])))
set_option maxHeartbeats 2000000 in
set_option maxRecDepth 100000 in
theorem change_any (v : Value) (L : List UserS) (x p : ByteArray) (w : World) (hF : InU w v L) (hn : L.length ≤ 1000) :
    Calls Tryz.prog 18 #[v, .string x, .string p] w (ChangeP x p L w) := by
  obtain ⟨a, cap, rfl, hc⟩ := hF
  have HF : Hid (InU w (.slice a L.length cap) L) := Lib.hid ⟨a, cap, rfl, hc⟩
  clear hc
  have HA := Lib.hid (at_any _ L x w HF.out (by omega))
  have HN := Lib.hid hn
  clear hn
  go_enter Tryz.func18, Tryz.ntmps18
  go_wp2_with fail
  refine HA.out.mono ?_
  rintro e w1 ⟨rfl, hb⟩
  have HB1 := Lib.hid hb
  clear hb
  rcases findU_cases (isName x) L with ⟨h1, h2⟩ | ⟨k, hk, h1, h2, h3⟩
  · rw [h1]
    have H2 := Lib.hid h2
    clear h1 h2
    go_wp2
    exact bodyPost_ret (v := .tuple #[.slice none 0 0, .bool false]) (by simp [results, Tryz.results14, go_sem]) rfl ⟨HB1.out, .inr ⟨H2.out, rfl⟩⟩
  · rw [h3]
    clear h3
    have hk1 : (k : Int) < L.length := by omega
    have hk0 : (0 : Int) ≤ k := by omega
    obtain ⟨b, off, rfl, hu⟩ := HF.out.uc HB1.out hk
    have HKK := Lib.hid (show ∃ h : k < L.length, isName x L[k] = true ∧ ∀ j (hj : j < k), isName x (L[j]'(by omega)) = false from ⟨hk, h1, h2⟩)
    clear h1 h2 hu
    have HCL := Lib.hid (clone_any _ cap L w1 (HF.out.below HB1.out) HN.out)
    go_wp2_with fail
    refine HCL.out.mono ?_
    rintro e w2 ⟨v2, rfl, ho, hb⟩
    have HB2 := Lib.hid (HB1.out.trans (hb.mono HB1.out.size))
    have hcell : ∀ g : Nat, v2.ownBlock = some g → ∀ (j : Nat) (u : Value), (cellsU L)[j]? = some u → w2.cell? ((⟨g, 0, none⟩ : Addr).add j) = some u := fun g hg => ho.cells hg
    rcases ho.2 with ⟨_, h0⟩ | ⟨g, c2, cur, rfl, hg0, hg, hcap, _, hcs, _⟩
    · omega
    · have hst := ho.stored (k * 6 + 1) (.string p)
      have hpos : (cellsU L)[k * 6 + 1]? = some (.string L[k].pass) := by rw [cellsU_at L k hk 1 (by omega)]; rfl
      have hce : w2.cell? ⟨g, k * 6 + 1, none⟩ = some (.string L[k].pass) := by
        have := hcell g rfl (k * 6 + 1) _ hpos
        have hadd : (⟨g, 0, none⟩ : Addr).add (k * 6 + 1) = ⟨g, k * 6 + 1, none⟩ := by unfold Addr.add; split <;> simp_all
        rwa [hadd] at this
      have hfr : w2.frozen? ⟨g, k * 6 + 1, none⟩ = false := frozen_of_row _ _ _ _ _ hg
      have HO : Hid (OwnU (w2.setCell ⟨g, k * 6 + 1, none⟩ (.string p)) w.heap.size (.slice (some ⟨g, 0, none⟩) L.length c2) (L.set k (passU p L[k]))) := Lib.hid (by
        unfold OwnU
        rw [List.length_set, cellsU_set]
        obtain ⟨q1, q2⟩ := hst.1
        refine ⟨q1, ?_⟩
        rcases q2 with ⟨q, _⟩ | ⟨g', cap', cur', q, hB, rest⟩
        · simp at q
        · exact .inr ⟨g', cap', cur', q, Nat.le_trans HB1.out.size hB, rest⟩)
      have HBS := Lib.hid (HB2.out.setCell (p := ⟨g, k * 6 + 1, none⟩) (Nat.le_trans HB1.out.size hg0) (.string p))
      generalize L[k].pass = oldp at *
      clear hst hpos hcell ho hb hg hcap hcs
      go_wp2
      refine bodyPost_ret (v := .tuple #[.slice (some ⟨g, 0, none⟩) L.length c2, .bool true]) (by simp [results, Tryz.results14, go_sem]) rfl ⟨HBS.out, .inl ?_⟩
      obtain ⟨h, h1, h2⟩ := HKK.out
      exact ⟨k, h, h1, h2, _, rfl, HO.out⟩
end Go.Proofs.YtmfbmjnoepcigaaGreatDoor
