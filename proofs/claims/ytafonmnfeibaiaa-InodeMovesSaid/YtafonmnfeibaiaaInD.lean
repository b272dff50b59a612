import Derived.Test.YtafonmnfeibaiaaInC
import Derived.Test.YtafonmnfeibaiaaInTie
import Derived.Test.YtafonmnfeibaiaaITTk
import Derived.RegionTactic
import Derived.BigRegion
import Derived.ChangeAlike
namespace Go.Proofs.Ytafonmnfeibaiaa
open Go.RowKit

section
variable {w : World} {t b k : Nat} {S : Tab} {n : Nd} (h : Rep w t S) (hk : S k = some (b, n))
include h hk
theorem Rep.c0 : w.cell? ⟨b, 0, none⟩ = some (.int .i64 n.ino) := h.cellN hk 0
theorem Rep.c1 : w.cell? ⟨b, 1, none⟩ = some (.int .i64 n.kind) := h.cellN hk 1
theorem Rep.c2 : w.cell? ⟨b, 2, none⟩ = some (.int .i64 n.mode) := h.cellN hk 2
theorem Rep.c3 : w.cell? ⟨b, 3, none⟩ = some (.int .i64 n.owner) := h.cellN hk 3
theorem Rep.c4 : w.cell? ⟨b, 4, none⟩ = some (.int .i64 n.group) := h.cellN hk 4
theorem Rep.c5 : w.cell? ⟨b, 5, none⟩ = some (.int .i64 n.links) := h.cellN hk 5
theorem Rep.c8 : w.cell? ⟨b, 8, none⟩ = some (.int .i64 n.holds) := h.cellN hk 8
theorem Rep.c9 : w.cell? ⟨b, 9, none⟩ = some (.string n.data) := h.cellN hk 9
theorem Rep.c10 : w.cell? ⟨b, 10, none⟩ = some (.map n.mp) := h.cellN hk 10
theorem Rep.c11 : w.cell? ⟨b, 11, none⟩ = some (.int .i64 (n.parent : Int)) := h.cellN hk 11
end

def Nd.lost (n : Nd) (x : Nat) : Nd := { n with links := n.links - 1, parent := if n.kind = 1 then x else n.parent }
theorem kp_lost (n : Nd) (x : Nat) : kp (n.lost x) = IT.losK x (kp n) := rfl
/-- An entry that led to a node is lost: its fields behind that. -/
theorem Mv.lost {w : World} {t b k : Nat} {S : Tab} {n : Nd} (h : Rep w t S) (hk : S k = some (b, n)) (hkd : n.kind = 1) :
    Mv w t S ((w.setCell ⟨b, 5, none⟩ (.int .i64 (n.links - 1))).setCell ⟨b, 11, none⟩ (.int .i64 n.ino)) (upd S k (some (b, n.lost k))) := by
  have hsm := (h.small k b n hk).1
  have hino := h.ino k b n hk
  have h1 := (Mv.refl h).setNode hk 5 (.int .i64 (n.links - 1)) { n with links := n.links - 1 } rfl rfl rfl rfl rfl hsm
  have h2 := h1.setNode (upd_same ..) 11 (.int .i64 n.ino) (n.lost k) (by simp [Nd.lost, Nd.cells, hkd, hino]) rfl rfl rfl rfl hsm
  rw [upd_upd] at h2
  exact h2
theorem Mv.lost' {w : World} {t b k : Nat} {S : Tab} {n : Nd} (h : Rep w t S) (hk : S k = some (b, n)) (hkd : n.kind ≠ 1) :
    Mv w t S (w.setCell ⟨b, 5, none⟩ (.int .i64 (n.links - 1))) (upd S k (some (b, n.lost k))) := by
  have hsm := (h.small k b n hk).1
  exact (Mv.refl h).setNode hk 5 (.int .i64 (n.links - 1)) (n.lost k) (by simp [Nd.lost, Nd.cells, hkd]) rfl rfl rfl rfl hsm

/-! ### What gone and loses are to show -/
def GonePost (w : World) (t : Nat) (S : Tab) (T : IT.Tr) (pend : Nat → Nat) (e : Ending) (w' : World) : Prop :=
  e = .returned (.tuple #[]) ∧ ∃ S' T', Mv w t S w' S' ∧ IT.Ties (kpOf S') T' pend ∧ IT.goneP pend T T'
def GoneOk (f : Nat) : Prop := ∀ (w : World) (t : Nat) (S : Tab) (T : IT.Tr) (pend : Nat → Nat) (k b : Nat) (n : Nd), Rep w t S → IT.Sound0 okN T → IT.Ties (kpOf S) T pend → (∀ x, IT.lnk T x + pend x ≤ 8) →
  (∀ j, IT.can T j → pend j ≠ 0 ∨ j = k) → S k = some (b, n) → IT.cnt T ≤ f →
  Calls Try.prog 77 #[.pointer (some ⟨t, 0, none⟩), .pointer (some ⟨b, 0, none⟩)] w (GonePost w t S T pend)
def LosesOk (f : Nat) : Prop := ∀ (w : World) (t : Nat) (S : Tab) (T : IT.Tr) (pend : Nat → Nat) (x b : Nat) (n : Nd), Rep w t S → IT.Sound0 okN T → IT.Ties (kpOf S) T pend → (∀ x, IT.lnk T x + pend x ≤ 8) →
  IT.Only T pend → pend x ≠ 0 → S x = some (b, n) → IT.cnt T ≤ f →
  Calls Try.prog 53 #[.pointer (some ⟨t, 0, none⟩), .pointer (some ⟨b, 0, none⟩)] w (GonePost w t S T (IT.less pend x))
theorem less_le (pend : Nat → Nat) (x y : Nat) : IT.less pend x y ≤ pend y := by unfold IT.less; split <;> omega

set_option maxHeartbeats 400000 in
theorem gone_keep {w : World} {t b k : Nat} {S : Tab} {n : Nd} (h : Rep w t S) (hk : S k = some (b, n)) (hc : 0 < n.links ∨ 0 < n.holds ∨ n.ino = 1) :
    Calls Try.prog 77 #[.pointer (some ⟨t, 0, none⟩), .pointer (some ⟨b, 0, none⟩)] w fun e w' => e = .returned (.tuple #[]) ∧ w = w' := by
  have c0 := h.c0 hk
  have c5 := h.c5 hk
  have c8 := h.c8 hk
  obtain ⟨ino, kind, mode, owner, group, links, tty, holds, data, mp, names, parent⟩ := n
  simp only at c0 c5 c8 hc
  clear h hk
  by_cases h1 : 0 < links
  · clear hc
    go_enter Try.func77, Try.ntmps77
    go_wp2
    exact bodyPost_ret (results_none rfl _ _ _) rfl ⟨rfl, rfl⟩
  · by_cases h2 : 0 < holds
    · clear hc
      go_enter Try.func77, Try.ntmps77
      go_wp2
      exact bodyPost_ret (results_none rfl _ _ _) rfl ⟨rfl, rfl⟩
    · obtain rfl : ino = 1 := by omega
      clear hc
      go_enter Try.func77, Try.ntmps77
      go_wp2
      exact bodyPost_ret (results_none rfl _ _ _) rfl ⟨rfl, rfl⟩

set_option maxHeartbeats 400000 in
theorem loses_of {f : Nat} (G : GoneOk f) : LosesOk f := by
  intro w t S T pend x b n h hsd hties hbd hon hpx hk hcnt
  obtain ⟨m, hm⟩ := hties.get (kpOf_some hk)
  have hlk : n.links = ((IT.lnk T x + pend x : Nat) : Int) := (hties.some x _ m (kpOf_some hk) hm).2.2.2.2.2.2.2.2.1
  have hb0 := hbd x
  have hb1 : 1 ≤ n.links := by omega
  have hb2 : n.links ≤ 8 := by omega
  have c0 := h.c0 hk
  have c1 := h.c1 hk
  have c5 := h.c5 hk
  have c11 := h.c11 hk
  have f5 := h.frozenN hk 5
  have f11 := h.frozenN hk 11
  have GG : ∀ w1 : World, Mv w t S w1 (upd S x (some (b, n.lost x))) → Calls Try.prog 77 #[.pointer (some ⟨t, 0, none⟩), .pointer (some ⟨b, 0, none⟩)] w1 (GonePost w t S T (IT.less pend x)) := by
    intro w1 hmv
    have ht2 : IT.Ties (kpOf (upd S x (some (b, n.lost x)))) T (IT.less pend x) := by
      rw [kpOf_upd, kp_lost]; exact hties.less (kpOf_some hk) hpx
    refine (G w1 t _ T (IT.less pend x) x b (n.lost x) hmv.rep hsd ht2 (fun y => ?_) (hon.less x) (upd_same ..) hcnt).mono ?_
    · have := hbd y; have := less_le pend x y; omega
    · rintro e w' ⟨rfl, S', T', g1, g2, g3⟩
      exact ⟨rfl, S', T', hmv.trans g1, g2, g3⟩
  have H := Lib.hid h
  have HK := Lib.hid hk
  have HG := Lib.hid GG
  clear h hk hsd hties hbd hon hm hlk hb0 GG
  by_cases hkd : n.kind = 1
  · have hkb : (n.kind == 1) = true := by simpa using hkd
    have HD := Lib.hid hkd
    clear hkd
    go_enter Try.func53, Try.ntmps53
    go_wp2_with fail
    refine (HG.out _ (Mv.lost H.out HK.out HD.out)).mono ?_
    rintro e w' ⟨rfl, hp⟩
    have HP := Lib.hid hp
    clear hp
    go_wp2
    go_end0
    exact ⟨rfl, HP.out⟩
  · have hkb : (n.kind == 1) = false := by simpa using hkd
    have HD := Lib.hid hkd
    clear hkd
    go_enter Try.func53, Try.ntmps53
    go_wp2_with fail
    refine (HG.out _ (Mv.lost' H.out HK.out HD.out)).mono ?_
    rintro e w' ⟨rfl, hp⟩
    have HP := Lib.hid hp
    clear hp
    go_wp2
    go_end0
    exact ⟨rfl, HP.out⟩
end Go.Proofs.Ytafonmnfeibaiaa
