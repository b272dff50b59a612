/- Right. -/
import Derived.Test.YtmfbmjnoepcigaaGreatDoorH
namespace Go.Proofs.YtmfbmjnoepcigaaGreatDoor
open Go.RowKit

theorem first_nodup (L : List UserS) (h : ∀ j (hj : j < L.length), findU (isName L[j].name) L 0 = j) : (namesU L).Nodup := by
  unfold namesU
  rw [List.Nodup, List.pairwise_iff_getElem]
  intro i j hi hj hij e
  simp only [List.length_map] at hi hj
  simp only [List.getElem_map] at e
  have h1 := h j hj
  rcases findU_cases (isName L[j].name) L with ⟨h2, _⟩ | ⟨k, hk, h2, h3, h4⟩
  · rw [h1] at h2; omega
  · rw [h1] at h4
    have : k = j := by omega
    subst this
    have := h3 i hij
    unfold isName at this
    simp [e] at this
theorem nodup_first {L : List UserS} (h : (namesU L).Nodup) (j : Nat) (hj : j < L.length) : findU (isName L[j].name) L 0 = j := by
  rcases findU_cases (isName L[j].name) L with ⟨_, h2⟩ | ⟨k, hk, h2, h3, h4⟩
  · have := h2 L[j] (List.getElem_mem _)
    simp [isName] at this
  · rw [h4]
    unfold isName at h2
    have h2' : L[k].name = L[j].name := by simpa using h2
    have hkj : k = j := by
      unfold namesU at h
      rw [List.Nodup, List.pairwise_iff_getElem] at h
      rcases Nat.lt_trichotomy k j with hl | hl | hl
      · exact (h k j (by simpa using hk) (by simpa using hj) hl (by rw [List.getElem_map, List.getElem_map]; exact h2')).elim
      · exact hl
      · exact (h j k (by simpa using hj) (by simpa using hk) hl (by rw [List.getElem_map, List.getElem_map]; exact h2'.symm)).elim
    rw [hkj]
/-- What holds of the users that were looked at. -/
def SeenR (L : List UserS) (k : Nat) : Prop := ∀ j (hj : j < L.length), j < k → j < 8 ∧ mayB L[j] = true ∧ findU (isName L[j].name) L 0 = j
theorem seen_all {L : List UserS} (h : SeenR L L.length) : rightB L = true := by
  rw [rightB_iff]
  refine ⟨?_, fun u hu => ?_, first_nodup L (fun j hj => (h j hj hj).2.2)⟩
  · by_cases h8 : L.length ≤ 8
    · exact h8
    · have := (h 8 (by omega) (by omega)).1; omega
  · obtain ⟨j, hj, rfl⟩ := List.getElem_of_mem hu
    exact (h j hj hj).2.1
theorem not_right {L : List UserS} {k : Nat} (hk : k < L.length) (h : k = 8 ∨ mayB L[k] = false ∨ findU (isName L[k].name) L 0 ≠ k) : rightB L = false := by
  cases hr : rightB L with
  | false => rfl
  | true =>
    have hR := (rightB_iff L).1 hr
    rcases h with rfl | h | h
    · have := hR.len; omega
    · rw [hR.may _ (List.getElem_mem _)] at h; cases h
    · exact absurd (nodup_first hR.nodup k hk) h
theorem seen_next {L : List UserS} {k : Nat} (hk : k < L.length) (h : SeenR L k) (h8 : ¬ k = 8) (hm : mayB L[k] = true) (hf : findU (isName L[k].name) L 0 = k) : SeenR L (k + 1) := fun j hj hlt => by
  by_cases hjk : j < k
  · exact h j hj hjk
  · obtain rfl : j = k := by omega
    refine ⟨?_, hm, hf⟩
    by_cases h9 : j < 8
    · exact h9
    · have := (h 8 (by omega) (by omega)).1; omega
set_option maxHeartbeats 4000000 in
set_option maxRecDepth 100000 in
theorem right_any (v : Value) (L : List UserS) (w : World) (hF : InU w v L) (hn : L.length ≤ 140737488355328) (hS : ∀ u ∈ L, SzU u) :
    Calls Tryz.prog 10 #[v] w fun e w' => e = .returned (.bool (rightB L)) ∧ Below w.heap.size w w' := by
  obtain ⟨a, cap, rfl, hc⟩ := hF
  have HF : Hid (InU w (.slice a L.length cap) L) := Lib.hid ⟨a, cap, rfl, hc⟩
  clear hc
  have HA := Lib.hid (fun (x : ByteArray) (W : World) (h : Below w.heap.size w W) => at_any _ L x W (HF.out.below h) hn)
  have HS := Lib.hid hS
  have hn1 : (L.length : Int) ≤ 140737488355328 := by omega
  clear hn hS
  go_enter Tryz.func10, Tryz.ntmps10
  go_wp2
  go_loopw [3, 4, 7] (fun v3 v4 v7 wr => ∃ k : Nat, k ≤ L.length ∧ v7 = .int .i64 k ∧ Hid (Below w.heap.size w wr ∧ SeenR L k)) (fun v3 v4 v7 _ => L.length - (intOf v7).toNat)
  case atStart => exact ⟨0, Nat.zero_le _, rfl, Lib.hid ⟨Below.refl _ _, fun j hj h => absurd h (Nat.not_lt_zero j)⟩⟩
  case round =>
    obtain ⟨k, hk, rfl, HH⟩ := hrel
    by_cases hlt : k < L.length
    · have hlt1 : (k : Int) < L.length := by omega
      obtain ⟨b, off, rfl, hu⟩ := HF.out.uc HH.out.1 hlt
      have hsz := HS.out _ (List.getElem_mem hlt)
      have HN := Lib.hid (fun h => not_right hlt h)
      have HNX := Lib.hid (fun h8 hm hf => seen_next hlt HH.out.2 h8 hm hf)
      generalize L[k] = f at *
      obtain ⟨g0, g1, g2, g3, g4, g5⟩ := hu
      have HSZ := Lib.hid hsz
      clear hsz
      go_upto_region 4 with fail
      have hw4 : Below wr.heap.size wr (wr.alloc (.cells (userC f) 29)) := (Below.refl _ _).alloc (Nat.le_refl _) _
      have hu4 : UC (wr.alloc (.cells (userC f) 29)) wr.heap.size 0 f := box_six (u := 29) (Below.refl _ _)
      have HB4 := Lib.hid (HH.out.1.trans (hw4.mono HH.out.1.size))
      clear hw4
      have hW : ∃ W4, wr.alloc (.cells (userC f) 29) = W4 := ⟨_, rfl⟩
      obtain ⟨W4, hW4⟩ := hW
      rw [hW4] at hu4 HB4
      have hW4' : wr.alloc (.cells #[.string f.name, .string f.pass, .int .i64 f.id, .int .i64 f.group, .string f.home, .string f.shell] 29) = W4 := hW4
      rw [hW4']
      have HU4 := Lib.hid hu4
      obtain ⟨c0, c1, c2, c3, c4, c5⟩ := hu4.at0
      clear hu4 hW4 hW4' g0 g1 g2 g3 g4 g5
      by_cases h8 : k = 8
      · have HR : Hid (rightB L = false) := Lib.hid (HN.out (.inl h8))
        have h81 : ((k : Int) == 8) = true := by rw [h8]; rfl
        clear h8
        go_wp2
        go_ret
        exact ⟨by rw [HR.out]; rfl, HB4.out⟩
      · have h81 : ((k : Int) == 8) = false := by
          cases hh : ((k : Int) == 8) with
          | false => rfl
          | true => simp at hh; omega
        have H8 := Lib.hid h8
        clear h8
        go_wp2_with fail
        refine (may_any f _ HSZ.out).mono ?_
        rintro e w5 ⟨rfl, hb⟩
        have hu5 := HU4.out.below hb
        have HB5 := Lib.hid (HB4.out.trans (hb.mono HB4.out.size))
        clear hb c0 c1 c2 c3 c4 c5
        cases hm : mayB f with
        | false =>
          have HR : Hid (rightB L = false) := Lib.hid (HN.out (.inr (.inl hm)))
          clear hu5 hm
          go_wp2
          go_ret
          exact ⟨by rw [HR.out]; rfl, HB5.out⟩
        | true =>
          obtain ⟨c0, c1, c2, c3, c4, c5⟩ := hu5.at0
          have HM := Lib.hid hm
          clear hm hu5
          go_wp2_with fail
          refine (HA.out f.name _ HB5.out).mono ?_
          rintro e w6 ⟨rfl, hb⟩
          have HB6 := Lib.hid (HB5.out.trans (hb.mono HB5.out.size))
          clear hb c0 c1 c2 c3 c4 c5
          obtain ⟨q, hq⟩ : ∃ q, findU (isName f.name) L 0 = q := ⟨_, rfl⟩
          rw [hq]
          have HQ := Lib.hid hq
          clear hq
          by_cases hqk : q = k
          · have hne : (q != (k : Int)) = false := by rw [hqk]; simp
            have hne2 : (q == (k : Int)) = true := by rw [hqk]; simp
            have HNEXT := Lib.hid (HNX.out H8.out HM.out (by rw [HQ.out, hqk]))
            clear hqk
            go_wp2
            go_roundw
            case rel => exact ⟨k + 1, by omega, by go_num, Lib.hid ⟨HB6.out, HNEXT.out⟩⟩
            case measure => simp [intOf]; omega
          · have hne : (q != (k : Int)) = true := by simpa using hqk
            have hne2 : (q == (k : Int)) = false := by simpa using hqk
            have HR : Hid (rightB L = false) := Lib.hid (HN.out (.inr (.inr (by rw [HQ.out]; exact hqk))))
            clear hqk
            go_wp2
            go_ret
            exact ⟨by rw [HR.out]; rfl, HB6.out⟩
    · have hlt1 : ¬ (k : Int) < L.length := by omega
      have HR : Hid (rightB L = true) := Lib.hid (seen_all (by have := HH.out.2; rwa [show k = L.length by omega] at this))
      go_wp2
      go_ret
      exact ⟨by rw [HR.out]; rfl, HH.out.1⟩
end Go.Proofs.YtmfbmjnoepcigaaGreatDoor
