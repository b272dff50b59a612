/- The document's Change; stores in an own row of users. -/
import Derived.Test.YtmfbmjnoepcigaaGreatDoorO
import Derived.Test.YtmfbmjnoepcigaaGreatDoorRa
namespace Go.Proofs.YtmfbmjnoepcigaaGreatDoor
open Go.RowKit

theorem add_at (g o : Nat) : (⟨g, 0, none⟩ : Addr).add o = ⟨g, o, none⟩ := by unfold Addr.add; split <;> simp_all
theorem own_pass {w : World} {B : Nat} {a : Option Addr} {c : Nat} {L : List UserS} (ho : OwnU w B (.slice a L.length c) L) {k : Nat} (hk : k < L.length) :
    ∃ g, a = some ⟨g, 0, none⟩ ∧ B ≤ g ∧ w.cell? ⟨g, k * 6 + 1, none⟩ = some (.string L[k].pass) ∧ w.frozen? ⟨g, k * 6 + 1, none⟩ = false ∧
      ∀ p, OwnU (w.setCell ⟨g, k * 6 + 1, none⟩ (.string p)) B (.slice a L.length c) (L.set k (passU p L[k])) := by
  have hpos : (cellsU L)[k * 6 + 1]? = some (.string L[k].pass) := by rw [cellsU_at L k hk 1 (by omega)]; rfl
  have hcell : ∀ g : Nat, (Value.slice a L.length c).ownBlock = some g → ∀ (j : Nat) (u : Value), (cellsU L)[j]? = some u → w.cell? ((⟨g, 0, none⟩ : Addr).add j) = some u := fun g hg => ho.cells hg
  rcases ho.2 with ⟨_, h0⟩ | ⟨g, c2, cur, he, hg0, hg, hcap, _, hcs, _⟩
  · omega
  · obtain ⟨rfl, rfl⟩ : a = some ⟨g, 0, none⟩ ∧ c = c2 := by simp at he; exact he
    refine ⟨g, rfl, hg0, ?_, frozen_of_row _ _ _ _ _ hg, fun p => ?_⟩
    · have := hcell g rfl (k * 6 + 1) _ hpos
      rwa [add_at] at this
    · unfold OwnU
      rw [List.length_set, cellsU_set]
      have ho' : w.ownsRow B 29 6 (.slice (some ⟨g, 0, none⟩) L.length c) L.length (cellsU L) := ho
      exact (ho'.stored (k * 6 + 1) (.string p)).1
def sixL (L : List Value) (o : Nat) (u : UserS) : List Value := (((((L.set o (.string u.name)).set (o + 1) (.string u.pass)).set (o + 2) (.int .i64 u.id)).set (o + 3) (.int .i64 u.group)).set (o + 4) (.string u.home)).set (o + 5) (.string u.shell)
theorem sixL_six (f : UserS) (R : List Value) (u : UserS) : sixL ((userC f).toList ++ R) 0 u = (userC u).toList ++ R := by simp [sixL, userC]
theorem sixL_app : ∀ (P R : List Value) (o : Nat) (u : UserS), sixL (P ++ R) (P.length + o) u = P ++ sixL R o u := by
  intro P R o u
  unfold sixL
  simp only [Nat.add_assoc, List.set_append_right _ _ (Nat.le_add_right _ _), Nat.add_sub_cancel_left]
theorem cellsU_six (u : UserS) : ∀ (L : List UserS) (k : Nat) (_ : k < L.length), cellsU (L.set k u) = sixL (cellsU L) (k * 6) u
  | [], k, hk => absurd hk (Nat.not_lt_zero k)
  | f :: L, 0, _ => by
    rw [List.set_cons_zero, cellsU_cons, cellsU_cons, Nat.zero_mul, sixL_six]
  | f :: L, k + 1, hk => by
    rw [List.set_cons_succ, cellsU_cons, cellsU_cons]
    have ih := cellsU_six u L k (by simpa using hk)
    rw [ih, show (k + 1) * 6 = (userC f).toList.length + k * 6 by rw [userC_len]; omega, sixL_app]
/-- The world behind six stores at a place of a block. -/
def sixAt (w : World) (g o : Nat) (u : UserS) : World := (((((w.setCell ⟨g, o, none⟩ (.string u.name)).setCell ⟨g, o + 1, none⟩ (.string u.pass)).setCell ⟨g, o + 2, none⟩ (.int .i64 u.id)).setCell ⟨g, o + 3, none⟩ (.int .i64 u.group)).setCell ⟨g, o + 4, none⟩ (.string u.home)).setCell ⟨g, o + 5, none⟩ (.string u.shell)
theorem sixAt_below {B : Nat} {w W : World} (h : Below B w W) {g : Nat} (hg : B ≤ g) (o : Nat) (u : UserS) : Below B w (sixAt W g o u) := by
  unfold sixAt
  exact (((((h.setCell hg _).setCell hg _).setCell hg _).setCell hg _).setCell hg _).setCell hg _
/-- A user stored in an own row. -/
theorem own_user {w : World} {B : Nat} {a : Option Addr} {c : Nat} {L : List UserS} (ho : OwnU w B (.slice a L.length c) L) {k : Nat} (hk : k < L.length) :
    ∃ g, a = some ⟨g, 0, none⟩ ∧ B ≤ g ∧ (w.cell? ⟨g, k * 6, none⟩ = some (.string L[k].name) ∧ w.cell? ⟨g, k * 6 + 1, none⟩ = some (.string L[k].pass) ∧ w.cell? ⟨g, k * 6 + 2, none⟩ = some (.int .i64 L[k].id) ∧ w.cell? ⟨g, k * 6 + 3, none⟩ = some (.int .i64 L[k].group) ∧ w.cell? ⟨g, k * 6 + 4, none⟩ = some (.string L[k].home) ∧ w.cell? ⟨g, k * 6 + 5, none⟩ = some (.string L[k].shell)) ∧
      (w.frozen? ⟨g, k * 6, none⟩ = false ∧ w.frozen? ⟨g, k * 6 + 1, none⟩ = false ∧ w.frozen? ⟨g, k * 6 + 2, none⟩ = false ∧ w.frozen? ⟨g, k * 6 + 3, none⟩ = false ∧ w.frozen? ⟨g, k * 6 + 4, none⟩ = false ∧ w.frozen? ⟨g, k * 6 + 5, none⟩ = false) ∧
      ∀ u, OwnU (sixAt w g (k * 6) u) B (.slice a L.length c) (L.set k u) := by
  have hcell : ∀ g : Nat, (Value.slice a L.length c).ownBlock = some g → ∀ (j : Nat) (u : Value), (cellsU L)[j]? = some u → w.cell? ((⟨g, 0, none⟩ : Addr).add j) = some u := fun g hg => ho.cells hg
  have hlen := cellsU_len L
  rcases ho.2 with ⟨_, h0⟩ | ⟨g, c2, cur, he, hg0, hg, hcap, _, hcs, _⟩
  · omega
  · obtain ⟨rfl, rfl⟩ : a = some ⟨g, 0, none⟩ ∧ c = c2 := by simp at he; exact he
    have hc : ∀ i, i < 6 → w.cell? ⟨g, k * 6 + i, none⟩ = (userC L[k])[i]? := by
      intro i hi
      have h1 : (userC L[k])[i]? = some ((userC L[k])[i]'(by simp [userC]; omega)) := Array.getElem?_eq_getElem (by simp [userC]; omega)
      rw [h1]
      have := hcell g rfl (k * 6 + i) _ (by rw [cellsU_at L k hk i hi]; exact h1)
      rwa [add_at] at this
    have hf : ∀ i, w.frozen? ⟨g, i, none⟩ = false := fun i => frozen_of_row _ _ _ _ _ hg
    refine ⟨g, rfl, hg0, ⟨hc 0 (by omega), hc 1 (by omega), hc 2 (by omega), hc 3 (by omega), hc 4 (by omega), hc 5 (by omega)⟩, ⟨hf _, hf _, hf _, hf _, hf _, hf _⟩, fun u => ?_⟩
    unfold OwnU
    rw [List.length_set, cellsU_six u L k hk]
    have ho' : w.ownsRow B 29 6 (.slice (some ⟨g, 0, none⟩) L.length c) L.length (cellsU L) := ho
    have s1 := (ho'.stored (k * 6) (.string u.name)).1
    have s2 := (s1.stored (k * 6 + 1) (.string u.pass)).1
    have s3 := (s2.stored (k * 6 + 2) (.int .i64 u.id)).1
    have s4 := (s3.stored (k * 6 + 3) (.int .i64 u.group)).1
    have s5 := (s4.stored (k * 6 + 4) (.string u.home)).1
    exact (s5.stored (k * 6 + 5) (.string u.shell)).1
end Go.Proofs.YtmfbmjnoepcigaaGreatDoor
