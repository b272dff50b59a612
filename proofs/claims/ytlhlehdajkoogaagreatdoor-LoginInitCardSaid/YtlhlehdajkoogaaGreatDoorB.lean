/- init: gettys, gets, waits, keeps. -/
import Derived.Test.YtlhlehdajkoogaaGreatDoorA
import Derived.Test.YtlhlehdajkoogaaGreatDoorPl
import Derived.Test.YtlhlehdajkoogaaGreatDoorShelf
namespace Go.Proofs.YtlhlehdajkoogaaGreatDoor
open Go.RowKit
open LGI (Md keepsM gone)

/-- Numbers in a row that a machine made. -/
def Own (F : Nat → Prop) (w : World) (v : Value) (g : List Int) : Prop :=
  ∃ b cap cur, F b ∧ v = .slice (some ⟨b, 0, none⟩) g.length cap ∧ w.heap[b]? = some (.cells cur 3 (0, 0)) ∧ ∀ j, j < g.length → cur[j]? = some (.int .i64 (g.getD j 0))
theorem M.ne {w : World} {p b : Nat} {m : Ma} (h : M w p m) {C : Array Value} (hb : w.heap[b]? = some (.cells C 3 (0, 0))) : b ≠ p := by
  intro e; subst e
  unfold M at h
  rw [hb] at h
  have h3 : (3 : TypeId) = MT := by injection h with h; injection h
  exact absurd h3 (by decide)
theorem Own.mo {F : Nat → Prop} {w w' : World} {v : Value} {g : List Int} {p : Nat} {m : Ma} (h : Own F w v g) (hM : M w p m) (k : Mo p w w') : Own F w' v g := by
  obtain ⟨b, cap, cur, hF, rfl, h1, h2⟩ := h
  exact ⟨b, cap, cur, hF, rfl, (k.block b (lt_of_heap h1) (hM.ne h1)).trans h1, h2⟩
theorem own_row {w : World} {B n : Nat} {v : Value} {g : List Int} (h : w.ownsRow B 3 1 v n (g.map (Value.int .i64))) (hn : v ≠ .slice none 0 0) (hg : n = g.length) {F : Nat → Prop} (hF : ∀ k, B ≤ k → F k) : Own F w v g := by
  subst hg
  rcases h.2 with ⟨rfl, _⟩ | ⟨b, cap, cur, rfl, hB, h1, h2, _, h4, h5⟩
  · exact absurd rfl hn
  · refine ⟨b, cap, cur, hF b hB, rfl, h1, fun j hj => ?_⟩
    have h6 : (cur.toList.take (g.length * 1))[j]? = (g.map (Value.int .i64))[j]? := by rw [h5]
    rw [List.getElem?_take, if_pos (by omega), List.getElem?_map, List.getElem?_eq_getElem hj] at h6
    rw [List.getD_eq_getElem?_getD, List.getElem?_eq_getElem hj]
    simpa using h6
def blockOf : Value → Nat
  | .slice (some ⟨b, _, _⟩) _ _ => b
  | _ => 0
theorem own_lt {w : World} {B n : Nat} {v : Value} {l : List Value} (h : w.ownsRow B 3 1 v n l) (hn : v ≠ .slice none 0 0) : B ≤ blockOf v := by
  rcases h.2 with ⟨rfl, _⟩ | ⟨b, cap, cur, rfl, h1, _⟩
  · exact absurd rfl hn
  · exact h1
set_option maxRecDepth 100000 in
set_option maxHeartbeats 2000000 in
theorem waits_any {w : World} {p : Nat} {m : Ma} (h : M w p m) :
    Calls Tryz.prog 110 #[.pointer (some ⟨p, 0, none⟩)] w fun e w' => e = .returned (.tuple #[]) ∧ M w' p { m with c := { op := 21 }, th := .func (.func 154) #[] #[] } ∧ Mo p w w' := by
  have H := Lib.hid h
  clear h
  go_enter Tryz.func110, Tryz.ntmps110
  go_wp2_with fail
  refine (sys_any H.out { op := 21 } _ _ _ rfl rfl).mono ?_
  rintro e w1 ⟨rfl, h1, h2⟩
  have H1 := Lib.hid h1
  have H2 := Lib.hid h2
  clear h1 h2
  go_wp2
  exact bodyPost_end (results_none rfl _ _ _) rfl ⟨rfl, H1.out, H2.out⟩
set_option maxRecDepth 100000 in
set_option maxHeartbeats 2000000 in
theorem gets_any {F : Nat → Prop} {w : World} (hF : ∀ k, w.heap.size ≤ k → F k) {p : Nat} {m : Ma} (h : M w p m) {g : List Int} (ho : Own F w m.gettys g) (t : Nat) (ht : t < g.length) (hg : g.length < 100) (pid : Int) :
    Calls Tryz.prog 115 #[.pointer (some ⟨p, 0, none⟩), .int .i64 (t : Int), .int .i64 pid] w fun e w' => e = .returned (.tuple #[]) ∧ ∃ v', M w' p { m with gettys := v' } ∧ Own F w' v' (g.set t pid) ∧ Mo p w w' := by
  have H := Lib.hid h
  have k1 := h.cell 1
  rw [show m.cells[1]? = some m.gettys from rfl] at k1
  obtain ⟨b, cap, cur, _, hv, hb, hc⟩ := ho
  rw [hv] at k1
  have HC := Lib.hid (Tryz.slices_Clone_int b 0 g.length cap g w (Nat.le_refl _) (by omega) (fun j hj => by rw [Nat.zero_add, cell_of hb]; exact hc j hj))
  clear h hc hv hb
  go_enter Tryz.func115, Tryz.ntmps115
  go_wp2_with fail
  refine HC.out.mono ?_
  rintro e w1 ⟨v', rfl, ho, hne, hbel⟩
  have hsz := own_lt ho hne
  obtain ⟨b', cap', cur', hFb, rfl, h1, h2⟩ := own_row (g := g) (by simpa using ho) hne rfl hF
  have hsz : w.heap.size ≤ b' := hsz
  have hM1 := H.out.below hbel
  have hmo := (Mo.refl p w).below hbel
  clear ho hne hbel HC k1
  have hbp := hM1.ne h1
  have k1 := hM1.cell 1
  rw [show m.cells[1]? = some m.gettys from rfl] at k1
  have f1 := frozen_of hM1 1
  have hM2 := hM1.set 1 (.slice (some ⟨b', 0, none⟩) g.length cap') { m with gettys := .slice (some ⟨b', 0, none⟩) g.length cap' } rfl
  have hmo2 := hmo.set (i := 1) (.slice (some ⟨b', 0, none⟩) g.length cap')
  have h12 : (w1.setCell ⟨p, 1, none⟩ (.slice (some ⟨b', 0, none⟩) g.length cap')).heap[b']? = some (.cells cur' 3 (0, 0)) := (Below.heap_setCell _ _ _ _ hbp).trans h1
  obtain ⟨W, hW⟩ : ∃ W, w1.setCell ⟨p, 1, none⟩ (.slice (some ⟨b', 0, none⟩) g.length cap') = W := ⟨_, rfl⟩
  rw [hW] at hM2 hmo2 h12
  have c1 : W.cell? ⟨p, 1, none⟩ = some (.slice (some ⟨b', 0, none⟩) g.length cap') := hM2.cell 1
  have ct : W.cell? ⟨b', t, none⟩ = some (.int .i64 (g.getD t 0)) := (cell_of h12 t).trans (h2 t ht)
  have ft := frozen_of h12 t
  have htz : (t : Int) < g.length := by omega
  have HO : Hid (Own F (W.setCell ⟨b', t, none⟩ (.int .i64 pid)) (.slice (some ⟨b', 0, none⟩) g.length cap') (g.set t pid)) := Lib.hid (by
    refine ⟨b', cap', _, hFb, by rw [List.length_set], heap_setCell_same h12 _, fun j hj => ?_⟩
    rw [List.length_set] at hj
    rw [Array.getElem?_setIfInBounds, List.getD_eq_getElem?_getD, List.getElem?_set]
    by_cases he : t = j
    · subst he
      have := h2 t ht
      rw [if_pos rfl, if_pos rfl, if_pos ht]
      rcases Nat.lt_or_ge t cur'.size with h | h
      · rw [if_pos h]; rfl
      · rw [Array.getElem?_eq_none h] at this; cases this
    · rw [if_neg he, if_neg he, h2 j hj, List.getD_eq_getElem?_getD])
  have hM3 : M (W.setCell ⟨b', t, none⟩ (.int .i64 pid)) p { m with gettys := .slice (some ⟨b', 0, none⟩) g.length cap' } := (Below.heap_setCell _ _ _ _ (fun e => hbp e.symm)).trans hM2
  have HM := Lib.hid hM3
  have hb1 : w.heap.size ≤ b' := hsz
  have HMO : Hid (Mo p w (W.setCell ⟨b', t, none⟩ (.int .i64 pid))) := Lib.hid ⟨hmo2.os, hmo2.tape, hmo2.output, by rw [World.size_setCell]; exact hmo2.size, fun k hk hb => (Below.heap_setCell _ _ _ _ (fun e => by have e' : k = b' := e; omega)).trans (hmo2.block k hk hb)⟩
  clear hM2 hmo2 hM3 h12 h2 h1
  go_wp2_with fail
  exact bodyPost_end (results_none rfl _ _ _) rfl ⟨rfl, _, HM.out, HO.out, HMO.out⟩
/-- Where keeps stops: it forks, or it waits. -/
def Kp (F : Nat → Prop) (p : Nat) (m : Ma) (w : World) : Md → Prop
  | .wait _ => M w p { m with c := { op := 21 }, th := .func (.func 154) #[] #[] }
  | .fork _ t => ∃ b, F b ∧ w.heap[b]? = some (.cells #[.int .i64 (t : Int)] 3 (0, 0)) ∧ M w p { m with c := { op := 18 }, th := .func (.func 111) #[] #[.pointer (some ⟨b, 0, none⟩)] }
set_option maxRecDepth 100000 in
set_option maxHeartbeats 4000000 in
theorem keeps_any {F : Nat → Prop} {p : Nat} {g : List Int} (hg : g.length < 100) : ∀ (n t : Nat) {w : World} {m : Ma}, (∀ k, w.heap.size ≤ k → F k) → g.length - t = n → t ≤ g.length → M w p m → Own F w m.gettys g →
    Calls Tryz.prog 71 #[.pointer (some ⟨p, 0, none⟩), .int .i64 (t : Int)] w fun e w' => e = .returned (.tuple #[]) ∧ Kp F p m w' (keepsM g t) ∧ Mo p w w' := by
  intro n
  induction n with
  | zero =>
    intro t w m hF hn ht h ho
    obtain rfl : t = g.length := by omega
    rw [keepsM, dif_neg (by omega)]
    have HM := Lib.hid (h.alloc (.cells #[.int .i64 (g.length : Int)] 3))
    have HMO := Lib.hid ((Mo.refl p w).alloc (.cells #[.int .i64 (g.length : Int)] 3))
    obtain ⟨b, cap, cur, _, hv, hb, hc⟩ := ho
    have k1 : (w.alloc (.cells #[.int .i64 (g.length : Int)] 3)).cell? ⟨p, 1, none⟩ = some (.slice (some ⟨b, 0, none⟩) g.length cap) := by rw [HM.out.cell 1, ← hv]; rfl
    clear h hv hb hc
    go_enter Tryz.func71, Tryz.ntmps71
    go_wp2_with fail
    go_quiet (fail)
    have HM2 : Hid (M ((w.alloc (.cells #[.int .i64 (g.length : Int)] 3)).drewN nq) p m) := Lib.hid (HM.out.below (belowDrewN (Below.refl _ _) _))
    have HMO2 := Lib.hid (HMO.out.drewN nq)
    clear HM HMO k1
    go_wp2_with fail
    refine (waits_any HM2.out).mono ?_
    rintro e w1 ⟨rfl, h1, h2⟩
    have H1 := Lib.hid h1
    have H2 := Lib.hid (HMO2.out.trans h2)
    clear h1 h2 HM2 HMO2
    go_wp2
    exact bodyPost_end (results_none rfl _ _ _) rfl ⟨rfl, H1.out, H2.out⟩
  | succ n ih =>
    intro t w m hF hn ht h ho
    have hlt : t < g.length := by omega
    have hltz : (t : Int) < g.length := by omega
    have hnez : ((t : Int) == (g.length : Int)) = false := by simp; omega
    have hne0 : ¬ ((t : Int) = (g.length : Int)) := by omega
    have HM := Lib.hid (h.alloc (.cells #[.int .i64 (t : Int)] 3))
    have HMO := Lib.hid ((Mo.refl p w).alloc (.cells #[.int .i64 (t : Int)] 3))
    have HOW := Lib.hid (ho.mo h HMO.out)
    have hmf : ∀ (fn : Fn) (first cap : Array Value) (w : World), (Instr.makeFunc fn first cap).run Tryz.prog w = .ok (.func fn first cap) w := fun _ _ _ _ => rfl
    have HB := Lib.hid (alloc_heap w (.cells #[.int .i64 (t : Int)] 3))
    have hbp : w.heap.size ≠ p := by have := h.lt; omega
    obtain ⟨b, cap, cur, _, hv, hb, hc⟩ := HOW.out
    have k1 : (w.alloc (.cells #[.int .i64 (t : Int)] 3)).cell? ⟨p, 1, none⟩ = some (.slice (some ⟨b, 0, none⟩) g.length cap) := by rw [HM.out.cell 1, ← hv]; rfl
    have kt : (w.alloc (.cells #[.int .i64 (t : Int)] 3)).cell? ⟨b, t, none⟩ = some (.int .i64 g[t]) := by
      rw [cell_of hb, hc t hlt, List.getD_eq_getElem?_getD, List.getElem?_eq_getElem hlt]; rfl
    clear h ho hv hb hc
    by_cases hz : g[t] = 0
    · rw [keepsM, dif_pos hlt, if_pos hz]
      rw [hz] at kt
      go_enter Tryz.func71, Tryz.ntmps71
      go_wp2_with fail
      go_quiet (fail)
      rename Nat => n1
      have k1' : ((w.alloc (.cells #[.int .i64 (t : Int)] 3)).drewN n1).cell? ⟨p, 1, none⟩ = some (.slice (some ⟨b, 0, none⟩) g.length cap) := k1
      have kt' : ((w.alloc (.cells #[.int .i64 (t : Int)] 3)).drewN n1).cell? ⟨b, t, none⟩ = some (.int .i64 0) := kt
      go_wp2_with fail
      go_quiet (fail)
      have HM2 : Hid (M ((w.alloc (.cells #[.int .i64 (t : Int)] 3)).drewN (n1 + nq)) p m) := Lib.hid (HM.out.below (belowDrewN (Below.refl _ _) _))
      have HMO2 := Lib.hid (HMO.out.drewN (n1 + nq))
      have HO2 := Lib.hid (HOW.out.mo HM.out ((Mo.refl p _).drewN (n1 + nq)))
      clear k1 k1' kt kt' HM HMO
      go_wp2_with fail
      refine (sys_any HM2.out { op := 18 } _ _ _ rfl rfl).mono ?_
      rintro e w1 ⟨rfl, h1, h2⟩
      have HB2 : Hid (w1.heap[w.heap.size]? = some (.cells #[.int .i64 (t : Int)] 3 (0, 0))) := Lib.hid ((h2.block w.heap.size (lt_of_heap HB.out) hbp).trans HB.out)
      have H1 := Lib.hid h1
      have H2 := Lib.hid (HMO2.out.trans h2)
      clear h1 h2 HM2 HMO2
      go_wp2
      exact bodyPost_end (results_none rfl _ _ _) rfl ⟨rfl, ⟨_, hF _ (Nat.le_refl _), HB2.out, H1.out⟩, H2.out⟩
    · rw [keepsM, dif_pos hlt, if_neg hz]
      have hzb : (g[t] != 0) = true := by simpa using hz
      have hwr : wrap64 ((t : Int) + 1) = ((t + 1 : Nat) : Int) := by unfold wrap64; omega
      go_enter Tryz.func71, Tryz.ntmps71
      go_wp2_with fail
      go_quiet (fail)
      rename Nat => n1
      have k1' : ((w.alloc (.cells #[.int .i64 (t : Int)] 3)).drewN n1).cell? ⟨p, 1, none⟩ = some (.slice (some ⟨b, 0, none⟩) g.length cap) := k1
      have kt' : ((w.alloc (.cells #[.int .i64 (t : Int)] 3)).drewN n1).cell? ⟨b, t, none⟩ = some (.int .i64 g[t]) := kt
      go_wp2_with fail
      go_quiet (fail)
      have HM2 : Hid (M ((w.alloc (.cells #[.int .i64 (t : Int)] 3)).drewN (n1 + nq)) p m) := Lib.hid (HM.out.below (belowDrewN (Below.refl _ _) _))
      have HMO2 := Lib.hid (HMO.out.drewN (n1 + nq))
      have HO2 := Lib.hid (HOW.out.mo HM.out ((Mo.refl p _).drewN (n1 + nq)))
      clear k1 k1' kt kt' HM HMO
      go_wp2_with fail
      refine (ih (t + 1) (fun k hk => hF k (Nat.le_trans HMO2.out.size hk)) (by omega) (by omega) HM2.out HO2.out).mono ?_
      rintro e w1 ⟨rfl, h1, h2⟩
      have H1 := Lib.hid h1
      have H2 := Lib.hid (HMO2.out.trans h2)
      clear h1 h2 HM2 HMO2
      go_wp2
      exact bodyPost_end (results_none rfl _ _ _) rfl ⟨rfl, H1.out, H2.out⟩
end Go.Proofs.YtlhlehdajkoogaaGreatDoor
