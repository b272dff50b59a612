/- The document's Change. -/
import Derived.Test.YtmfbmjnoepcigaaGreatDoorRb
namespace Go.Proofs.YtmfbmjnoepcigaaGreatDoor
open Go.RowKit

theorem InU.none_nil {w : World} {c : Nat} {L : List UserS} (h : InU w (.slice none L.length c) L) : L = [] := by
  cases L with
  | nil => rfl
  | cons u L =>
    obtain ⟨b, off, hb, _⟩ := h.uc (Below.refl _ _) (k := 0) (by simp)
    cases hb
set_option maxHeartbeats 2000000 in
set_option maxRecDepth 100000 in
theorem rchange_any (v : Value) (L : List UserS) (x p : ByteArray) (w : World) (hF : InU w v L) (hn : L.length ≤ 1000) :
    Calls Tryz.prog 19 #[v, .string x, .string p] w (ChangeP x p L w) := by
  obtain ⟨a, cap, rfl, hc⟩ := hF
  have HF : Hid (InU w (.slice a L.length cap) L) := Lib.hid ⟨a, cap, rfl, hc⟩
  clear hc
  have HN := Lib.hid hn
  clear hn
  obtain ⟨i0, hi, hz0, hz1, hz4⟩ := info_parts info33
  go_enter Tryz.func19, Tryz.ntmps19
  go_upto_region 1 with fail
  go_cut [8] from 10 to 13 (fun v8 wx => Below w.heap.size w wx ∧ OwnU wx w.heap.size v8 L)
  case first =>
    cases a with
    | none =>
      have hl := HF.out.none_nil
      subst hl
      go_wp2
      go_meet
      exact ⟨(Below.refl _ _).alloc (Nat.le_refl _) _, World.ownsRow_made w #[] 0 (Nat.le_refl _) (by unfold maxLen; omega) rfl⟩
    | some a =>
      go_wp2_with (at_builtin; refine wpList_append_own _ rfl _ _ 23 rfl w.heap.size 29 i0 (.agg (userC zeroU)) 6 80 Tryz.underlying23 hi hz0 hz1 hz4 rfl (by decide) _ _ _ rfl (World.ownsRow_made _ #[] 0 (Nat.le_refl _) (by unfold maxLen; omega) rfl) a L.length cap (cellsU L) rfl (cellsU_len L) (fun j u hj => inU_cells (HF.out.below ((Below.refl _ _).alloc (Nat.le_refl _) _)) j u hj) (cells_one L) (by unfold maxLen; have := HN.out; omega) (by have := HN.out; omega) (by simp) ?_; intro v' w6 hown' hgrow _)
      have HO : Hid (OwnU w6 w.heap.size v' L) := Lib.hid (by unfold OwnU; rw [Nat.zero_add, List.nil_append] at hown'; exact hown')
      have HB := Lib.hid (below_grown ((Below.refl w.heap.size w).alloc (Nat.le_refl _) _) (Nat.le_refl _) hgrow (fun k hk => Nat.le_of_eq (Option.some.inj hk)))
      clear hown' hgrow
      go_wp2
      go_meet
      exact ⟨HB.out, HO.out⟩
  case rest =>
    obtain ⟨hb1, ho1⟩ := hcut
    obtain ⟨a8, c8, rfl⟩ := ho1.form
    have hl1 : (L.length : Int) ≤ 1000 := by have := HN.out; omega
    have HB1 := Lib.hid hb1
    have HO1 := Lib.hid ho1
    clear hb1 ho1 hi hz0 hz1 hz4
    go_wp2
    go_loopw [9] (fun v9 wr => ∃ k : Nat, k ≤ L.length ∧ v9 = .int .i64 k ∧ Hid (Below w.heap.size w wr ∧ OwnU wr w.heap.size (.slice a8 L.length c8) L ∧ ∀ j (hj : j < k) (hj2 : j < L.length), isName x L[j] = false)) (fun v9 _ => L.length - (intOf v9).toNat)
    case atStart => exact ⟨0, Nat.zero_le _, rfl, Lib.hid ⟨HB1.out, HO1.out, fun j hj => by omega⟩⟩
    case round =>
      obtain ⟨k, hk, rfl, HH⟩ := hrel
      by_cases hlt : k < L.length
      · have hlt1 : (k : Int) < L.length := by omega
        obtain ⟨g, rfl, hg, ⟨g0, g1, _⟩, ⟨f0, f1, _⟩, hst⟩ := own_user HH.out.2.1 hlt
        obtain ⟨g', hg', _, _, _, hps⟩ := own_pass HH.out.2.1 hlt
        obtain rfl : g = g' := by simpa using hg'
        have HPS : Hid (isName x (L[k]'hlt) = true → ChangeP x p L w (.returned (.tuple #[.slice (some ⟨g, 0, none⟩) L.length c8, .bool true])) (wr.setCell ⟨g, k * 6 + 1, none⟩ (.string p))) :=
          Lib.hid fun h => ⟨HH.out.1.setCell (p := ⟨g, k * 6 + 1, none⟩) hg _, .inl ⟨k, hlt, h, fun j hj => HH.out.2.2 j hj (by omega), _, rfl, hps p⟩⟩
        have HNX : Hid (isName x (L[k]'hlt) = false → ∀ j (hj : j < k + 1) (hj2 : j < L.length), isName x L[j] = false) := Lib.hid fun h j hj hj2 => by
          by_cases he : j = k
          · subst he; exact h
          · exact HH.out.2.2 j (by omega) hj2
        clear hst hps hg'
        generalize L[k]'hlt = f at *
        have he1 : (f.name.toList == x.toList) = isName x f := eq_text _ _
        cases hp : isName x f with
        | true =>
          rw [hp] at he1
          have HX := Lib.hid (HPS.out hp)
          clear hp HPS HNX
          go_wp2
          exact bodyPost_ret (v := .tuple #[.slice (some ⟨g, 0, none⟩) L.length c8, .bool true]) (by simp [results, Tryz.results19, go_sem]) rfl HX.out
        | false =>
          rw [hp] at he1
          have HX := Lib.hid (HNX.out hp)
          clear hp HPS HNX f0 f1 g1
          go_wp2
          go_roundw
          case rel => exact ⟨k + 1, by omega, by go_num, Lib.hid ⟨HH.out.1, HH.out.2.1, HX.out⟩⟩
          case measure => simp [intOf]; omega
      · have hlt1 : ¬ (k : Int) < L.length := by omega
        have HX : Hid (∀ f ∈ L, isName x f = false) := Lib.hid fun f hf => by
          obtain ⟨j, hj, rfl⟩ := List.getElem_of_mem hf
          exact HH.out.2.2 j (by omega) hj
        go_wp2
        exact bodyPost_ret (v := .tuple #[.slice none 0 0, .bool false]) (by simp [results, Tryz.results19, go_sem]) rfl ⟨HH.out.1, .inr ⟨HX.out, rfl⟩⟩
end Go.Proofs.YtmfbmjnoepcigaaGreatDoor
