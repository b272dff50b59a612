/- init: what follows on an answer: of a fork, of a wait. -/
import Derived.Test.YtlhlehdajkoogaaGreatDoorB
namespace Go.Proofs.YtlhlehdajkoogaaGreatDoor
open Go.RowKit
open LGI (Md keepsM gone)

/-- Where an init stands behind an answer. -/
def Kq (F : Nat → Prop) (p : Nat) (m : Ma) (g : List Int) (md : Md) (w : World) (e : Ending) (w' : World) : Prop :=
  e = .returned (.tuple #[]) ∧ ∃ v', Kp F p { m with gettys := v' } w' md ∧ Own F w' v' g ∧ Mo p w w'
theorem Kp.ma {F : Nat → Prop} {p : Nat} {m : Ma} {w : World} {md : Md} (h : Kp F p m w md) : ∃ m', M w p m' := by
  cases md with
  | wait g => exact ⟨_, h⟩
  | fork g t => obtain ⟨b, _, _, h⟩ := h; exact ⟨_, h⟩
set_option maxRecDepth 100000 in
set_option maxHeartbeats 4000000 in
theorem forked_any {F : Nat → Prop} {w : World} (hF : ∀ k, w.heap.size ≤ k → F k) {p cb : Nat} {m : Ma} (h : M w p m) {g : List Int} (ho : Own F w m.gettys g) {t : Nat} (hcb : w.heap[cb]? = some (.cells #[.int .i64 (t : Int)] 3 (0, 0))) (ht : t < g.length) (hg : g.length < 100) (r : An) (he : r.err = 0) (hn : 0 < r.n) :
    Calls Tryz.prog 111 #[.pointer (some ⟨p, 0, none⟩), .agg r.cells, .pointer (some ⟨cb, 0, none⟩)] w (Kq F p m (g.set t r.n) (keepsM (g.set t r.n) (t + 1)) w) := by
  obtain ⟨C, hC⟩ : ∃ C, r.cells = C := ⟨_, rfl⟩
  have h0 : C[0]? = some (.int .i64 0) := by rw [← hC, ← he]; rfl
  have h1 : C[1]? = some (.int .i64 r.n) := by rw [← hC]; rfl
  rw [hC]
  have ha := alloc_heap w (.cells C 35)
  have x0 : (w.alloc (.cells C 35)).cell? ⟨w.heap.size, 0, none⟩ = some (.int .i64 0) := (cell_of ha 0).trans h0
  have x1 : (w.alloc (.cells C 35)).cell? ⟨w.heap.size, 1, none⟩ = some (.int .i64 r.n) := (cell_of ha 1).trans h1
  have hM := h.alloc (.cells C 35)
  have hmo := (Mo.refl p w).alloc (.cells C 35)
  have hO := ho.mo h hmo
  have hB := (alloc_heap_old w (.cells C 35) (lt_of_heap hcb)).trans hcb
  have y0 : (w.alloc (.cells C 35)).cell? ⟨cb, 0, none⟩ = some (.int .i64 (t : Int)) := cell_of hB 0
  have hle : (decide (r.n ≤ 0)) = false := by simp; omega
  have hle' : ¬ r.n ≤ 0 := by omega
  have HM := Lib.hid hM
  have HMO := Lib.hid hmo
  have HO := Lib.hid hO
  have HB := Lib.hid hB
  have HNE := Lib.hid (hM.ne hB)
  have hwr : wrap64 ((t : Int) + 1) = ((t + 1 : Nat) : Int) := by unfold wrap64; omega
  clear h ho hcb hC h0 h1 ha hM hmo hO hB he
  go_enter Tryz.func111, Tryz.ntmps111
  go_wp2_with fail
  refine (gets_any (fun k hk => hF k (Nat.le_trans HMO.out.size hk)) HM.out HO.out t ht hg r.n).mono ?_
  rintro e w2 ⟨rfl, v', h1, h2, h3⟩
  have hB2 := (h3.block cb (lt_of_heap HB.out) HNE.out).trans HB.out
  have y2 : w2.cell? ⟨cb, 0, none⟩ = some (.int .i64 (t : Int)) := cell_of hB2 0
  have HM2 := Lib.hid h1
  have HO2 := Lib.hid h2
  have HMO2 := Lib.hid (HMO.out.trans h3)
  clear h1 h2 h3 hB2 HM HO HMO HB x0 x1 y0
  go_wp2_with fail
  refine (keeps_any (by rw [List.length_set]; exact hg) _ (t + 1) (fun k hk => hF k (Nat.le_trans HMO2.out.size hk)) rfl (by rw [List.length_set]; omega) HM2.out HO2.out).mono ?_
  rintro e w3 ⟨rfl, h1, h2⟩
  have H1 := Lib.hid h1
  have H2 := Lib.hid (HMO2.out.trans h2)
  have H3 := Lib.hid (HO2.out.mo HM2.out h2)
  clear h1 h2 HM2 HMO2
  go_wp2
  exact bodyPost_end (results_none rfl _ _ _) rfl ⟨rfl, v', H1.out, H3.out, H2.out⟩
set_option maxRecDepth 100000 in
set_option maxHeartbeats 4000000 in
theorem waited_any {F : Nat → Prop} {w : World} (hF : ∀ k, w.heap.size ≤ k → F k) {p : Nat} {m : Ma} (h : M w p m) {gl : List Int} (ho : Own F w m.gettys gl) (hg : gl.length < 100) (r : An) (he : r.err = 0) :
    Calls Tryz.prog 154 #[.pointer (some ⟨p, 0, none⟩), .agg r.cells] w (Kq F p m (gone gl r.n) (keepsM (gone gl r.n) 0) w) := by
  obtain ⟨C, hC⟩ : ∃ C, r.cells = C := ⟨_, rfl⟩
  have h0 : C[0]? = some (.int .i64 0) := by rw [← hC, ← he]; rfl
  have h1 : C[1]? = some (.int .i64 r.n) := by rw [← hC]; rfl
  rw [hC]
  obtain ⟨n, hn⟩ : ∃ n, r.n = n := ⟨_, rfl⟩
  rw [hn] at h1 ⊢
  have ha := alloc_heap w (.cells C 35)
  have hM := h.alloc (.cells C 35)
  have hmo := (Mo.refl p w).alloc (.cells C 35)
  have hO := ho.mo h hmo
  obtain ⟨w1, hw1⟩ : ∃ w1, w.alloc (.cells C 35) = w1 := ⟨_, rfl⟩
  rw [hw1] at ha hM hmo hO
  have hap : w.heap.size ≠ p := by have := h.lt; omega
  obtain ⟨b, cap, cur, _, hv, hb, hc⟩ := id hO
  have hbp := hM.ne hb
  have x0 : w1.cell? ⟨w.heap.size, 0, none⟩ = some (.int .i64 0) := (cell_of ha 0).trans h0
  have k1 : w1.cell? ⟨p, 1, none⟩ = some (.slice (some ⟨b, 0, none⟩) gl.length cap) := by rw [hM.cell 1, ← hv]; rfl
  have HA : Hid (∀ W, Mo p w1 W → W.cell? ⟨w.heap.size, 1, none⟩ = some (.int .i64 n)) := Lib.hid fun W hW => (cell_of ((hW.block _ (lt_of_heap ha) hap).trans ha) 1).trans h1
  have HC : Hid (∀ W, Mo p w1 W → ∀ i (hi : i < gl.length), W.cell? ⟨b, i, none⟩ = some (.int .i64 gl[i])) := Lib.hid fun W hW i hi => by
    rw [cell_of ((hW.block _ (lt_of_heap hb) hbp).trans hb) i, hc i hi, List.getD_eq_getElem?_getD, List.getElem?_eq_getElem hi]; rfl
  have H0 : Hid (M w1 p { m with gettys := m.gettys } ∧ Own F w1 m.gettys (gone (gl.take 0) n ++ gl.drop 0) ∧ Mo p w1 w1) := Lib.hid ⟨hM, by rw [List.take_zero, List.drop_zero]; exact hO, Mo.refl _ _⟩
  have HMO := Lib.hid hmo
  obtain ⟨L, hL⟩ : ∃ L, gl.length = L := ⟨_, rfl⟩
  have HL := Lib.hid hL
  rw [hL] at hg k1
  clear h ho hC h0 h1 ha hM hmo hO hv hb hc he hn hbp hap hL
  go_enter Tryz.func154, Tryz.ntmps154
  go_wp2_with fail

  go_loopg [19] L (fun g iv wr => ∃ (i : Nat) (v : Value), iv = .int .i64 (i : Int) ∧ i + g = L ∧ Hid (M wr p { m with gettys := v } ∧ Own F wr v (gone (gl.take i) n ++ gl.drop i) ∧ Mo p w1 wr))
  case atStart => exact ⟨0, _, rfl, by omega, H0⟩
  case round =>
    clear H0 x0 k1
    obtain ⟨i, v, rfl, hig, HR⟩ := hrel
    have HX := Lib.hid (HA.out wr HR.out.2.2)
    by_cases hil : i < L
    · obtain ⟨og, rfl⟩ : ∃ og, gk = og + 1 := ⟨gk - 1, by omega⟩
      have hil2 : (i : Int) < L := by omega
      have hlt : i < gl.length := by rw [HL.out]; exact hil
      have y0 := HC.out wr HR.out.2.2 i hlt
      have y1 := HX.out
      have hlen : (gone (gl.take i) n ++ gl.drop i).length = L := by rw [List.length_append, LGI.gone_len, List.length_take, List.length_drop]; have := HL.out; omega
      have hst := LGI.gone_step hlt n
      obtain ⟨z, hz⟩ : ∃ z, gl[i] = z := ⟨_, rfl⟩
      rw [hz] at y0 hst
      have HS := Lib.hid hst
      clear hz hst hlt
      by_cases hzn : z = n
      · subst hzn
        have HG := Lib.hid (gets_any (fun k hk => hF k (Nat.le_trans (HMO.out.trans HR.out.2.2).size hk)) HR.out.1 HR.out.2.1 i (by rw [hlen]; exact hil) (by rw [hlen]; exact hg) 0)
        go_wp2_with fail
        refine HG.out.mono ?_
        rintro e w2 ⟨rfl, v', h1, h2, h3⟩
        have HN : Hid (M w2 p { m with gettys := v' } ∧ Own F w2 v' (gone (gl.take (i + 1)) z ++ gl.drop (i + 1)) ∧ Mo p w1 w2) := Lib.hid ⟨h1, by rw [← HS.out.1 (by first | rfl | trivial)]; exact h2, HR.out.2.2.trans h3⟩
        clear h1 h2 h3 HG
        go_wp2
        go_roundg og
        case measure => omega
        case rel => exact ⟨i + 1, _, by go_num, by omega, HN⟩
      · have hzb : (z == n) = false := by simpa using hzn
        have HN : Hid (M wr p { m with gettys := v } ∧ Own F wr v (gone (gl.take (i + 1)) n ++ gl.drop (i + 1)) ∧ Mo p w1 wr) := Lib.hid ⟨HR.out.1, by rw [← HS.out.2 hzn]; exact HR.out.2.1, HR.out.2.2⟩
        go_wp2
        go_roundg og
        case measure => omega
        case rel => exact ⟨i + 1, _, by go_num, by omega, HN⟩
    · have hil2 : (L : Int) ≤ i := by omega
      obtain rfl : i = L := by omega
      have HO : Hid (Own F wr v (gone gl n)) := Lib.hid (by
        have := HR.out.2.1
        rw [← HL.out, List.take_length, List.drop_length, List.append_nil] at this
        exact this)
      go_wp2_with fail
      refine (keeps_any (by rw [LGI.gone_len, HL.out]; exact hg) _ 0 (fun k hk => hF k (Nat.le_trans (HMO.out.trans HR.out.2.2).size hk)) rfl (Nat.zero_le _) HR.out.1 HO.out).mono ?_
      rintro e w3 ⟨rfl, h1, h2⟩
      have H1 := Lib.hid h1
      have H2 := Lib.hid ((HMO.out.trans HR.out.2.2).trans h2)
      have H3 := Lib.hid (HO.out.mo HR.out.1 h2)
      clear h1 h2
      go_wp2
      exact bodyPost_end (results_none rfl _ _ _) rfl ⟨rfl, v, H1.out, H3.out, H2.out⟩
end Go.Proofs.YtlhlehdajkoogaaGreatDoor
