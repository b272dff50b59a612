/- A tree of inodes, plain: ties: one more; a root alone. No program in sight. -/
import Derived.Test.YtafonmnfeibaiaaITTk
namespace Go.Proofs.Ytafonmnfeibaiaa.IT
open Go.RowKit

theorem lnk_new {S : Tr} {k : Nat} {n : Nd} (hk : S k = Option.none) (hk2 : k ≤ 200) (hn : n.names = []) (x : Nat) : lnk (upd S k (Option.some n)) x = lnk S x := by
  have e := lnk_upd S hk2 (Option.some n) x
  have e1 : leadO x (Option.some n) = 0 := by show lead x n = 0; unfold lead; rw [hn]; rfl
  rw [hk] at e
  have e2 : leadO x Option.none = 0 := rfl
  omega
/-- A new one. -/
theorem Ties.make {P : Nat → Option Kp} {S : Tr} (h : Ties P S calm) {k : Nat} {n : Nd} {p : Kp} (hk : S k = Option.none) (hk2 : k ≤ 200) (hn : n.names = []) (hl : lnk S k = 0) (hp : Kept p n 0) : Ties (updK P k (Option.some p)) (upd S k (Option.some n)) calm := by
  refine ties_calm (fun j => ?_) fun j q m hq hm => ?_
  · by_cases e : j = k
    · subst e; rw [updK_same, upd_same]; simp
    · rw [updK_other _ _ e, upd_other _ _ e]; exact h.none j
  · rw [lnk_new hk hk2 hn]
    by_cases e : j = k
    · subst e
      rw [updK_same] at hq; rw [upd_same] at hm
      obtain rfl := Option.some.inj hq
      obtain rfl := Option.some.inj hm
      rw [hl]; exact hp
    · rw [updK_other _ _ e] at hq; rw [upd_other _ _ e] at hm
      exact h.kept hq hm
theorem Ties.root {m o g : Int} {p : Kp} (hp : Kept p ⟨1, m, o, g, 0, 0, [], [], 1⟩ 0) : Ties (updK (fun _ => Option.none) 1 (Option.some p)) (rootT m o g) calm := by
  refine ties_calm (fun j => ?_) fun j q n hq hn => ?_
  · unfold updK rootT
    by_cases e : j = 1
    · rw [if_pos e, if_pos e]; simp
    · rw [if_neg e, if_neg e]; exact ⟨fun _ => rfl, fun _ => rfl⟩
  · obtain ⟨rfl, rfl⟩ := rootT_get hn
    rw [updK_same] at hq
    obtain rfl := Option.some.inj hq
    rw [rootT_lnk]; exact hp
/-- An entry more, its link counted. -/
theorem entT_names {S : Tr} {d x : Nat} {nm : Bytes} {n m : Nd} (hne : x ≠ d) : entT S d x nm n m x = Option.some (under d m) := by unfold entT; rw [upd_other _ _ hne, upd_same]
end Go.Proofs.Ytafonmnfeibaiaa.IT
