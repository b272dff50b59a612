import Derived.Test.YtafonmnfeibaiaaInK
import Derived.StillTailTactics
import Derived.BigQuiet
import Derived.RegionTactic
import Derived.BigRegion
import Derived.ChangeAlike
import Derived.Deep.QuietTactic
namespace Go.Proofs.Ytafonmnfeibaiaa
open Go.RowKit

theorem Mv.drewN {w w1 : World} {t : Nat} {S S1 : Tab} (h : Mv w t S w1 S1) (n : Nat) : Mv w t S (w1.drewN n) S1 := h.below (belowDrewN (Below.refl _ _) n)
/-- The state of a tree in which an entry was moved to where there was none of that name, or another one. -/
def movedS (S : Tab) (d b x : Nat) (bd : Nat) (nd : Nd) (bb : Nat) (nb1 : Nd) (bx : Nat) (nx : Nd) (s : ByteArray) (l2 : List (ByteArray × Nat)) : Tab :=
  upd (upd (upd S d (some (bd, { nd with names := delL nd.names s }))) b (some (bb, { nb1 with names := l2 }))) x (some (bx, { nx with parent := if nx.kind = 1 then b else nx.parent }))
/-- What the writes of Move do, at whatever world w1 in which the tree lies. -/
structure MvW (w1 : World) (t : Nat) (S : Tab) (d b x : Nat) (bd bb bx : Nat) (nd nb1 nx : Nd) (s ar : ByteArray) (m m2 : Nat) (O1 O2 : Obj) (l2 : List (ByteArray × Nat)) : Prop where
  mpd : nd.mp = some m
  rdel : ∀ j ty, (Builtin.delete_ #[84, 9] ty #[.map (some m), .string s]).run Try.prog (w1.drewN j) = .ok (.tuple #[]) ((w1.drewN j).putObj m O1)
  rupd : ∀ j, (Instr.mapUpdate 84 (.map (some m2)) (.string ar) (.int .i64 (x : Int))).run Try.prog ((w1.drewN j).putObj m O1).drew = .ok () (((w1.drewN j).putObj m O1).drew.putObj m2 O2)
  c10 : ∀ j, ((w1.drewN j).putObj m O1).cell? ⟨bb, 10, none⟩ = some (.map (some m2))
  c0 : ∀ j, ((w1.drewN j).putObj m O1).cell? ⟨bx, 0, none⟩ = some (.int .i64 (x : Int))
  mv : ∀ j, Mv w1 t S (((w1.drewN j).putObj m O1).drew.putObj m2 O2) (Ytafonmnfeibaiaa.upd (Ytafonmnfeibaiaa.upd S d (some (bd, { nd with names := delL nd.names s }))) b (some (bb, { nb1 with names := l2 })))
  perm : l2.Perm ((ar, x) :: delL nb1.names ar)

theorem mvW_of {w1 : World} {t : Nat} {S : Tab} (h : Rep w1 t S) {d b x bd bb bx : Nat} {nd nb nx : Nd} (hd : S d = some (bd, nd)) (hb : S b = some (bb, nb)) (hx : S x = some (bx, nx)) (hdk : nd.kind = 1) (hbk : nb.kind = 1) (hxd : x ≠ d) (hxb : x ≠ b) (s ar : ByteArray) {y : Nat} (hl : look nd.names s = some y)
    {nb1 : Nd} (hnb1 : nb1 = if b = d then { nd with names := delL nd.names s } else nb) (h40 : (delL nb1.names ar).length < 40) :
    ∃ m m2 O1 O2 l2, MvW w1 t S d b x bd bb bx nd nb1 nx s ar m m2 O1 O2 l2 := by
  obtain ⟨m, hm⟩ := h.dir_mp hd hdk
  obtain ⟨m2, hm2⟩ := h.dir_mp hb hbk
  obtain ⟨es, c, hm1, hmo⟩ := h.map _ bd nd m hd hm
  obtain ⟨es', hmo', hrun⟩ := delete_all Try.underlying84 Try.underlying9 hmo s y hl m
  have hsz := (h.small _ bd nd hd).2
  have hlen : (delL nd.names s).length ≤ 40 := by
    have h2 : (delL nd.names s).length ≤ nd.names.length := List.length_eraseP_le
    omega
  have hmv1 : ∀ j, Mv w1 t S ((w1.drewN j).putObj m (.map es' c)) (upd S d (some (bd, { nd with names := delL nd.names s }))) := fun j => ((Mv.refl h).drewN j).setMap hd hm es' c _ hmo' hlen
  have hS1 : upd S d (some (bd, { nd with names := delL nd.names s })) b = some (bb, nb1) := by
    by_cases e : b = d
    · rw [if_pos e] at hnb1
      subst e
      rw [hd] at hb
      obtain ⟨rfl, rfl⟩ := Prod.mk.inj (Option.some.inj hb)
      rw [upd_same, hnb1]
    · rw [if_neg e] at hnb1
      rw [upd_other _ _ e, hb, hnb1]
  have hS1x : upd S d (some (bd, { nd with names := delL nd.names s })) x = some (bx, nx) := by rw [upd_other _ _ hxd]; exact hx
  have hmp1 : nb1.mp = some m2 := by
    by_cases e : b = d
    · rw [if_pos e] at hnb1
      subst e
      rw [hd] at hb
      obtain ⟨rfl, rfl⟩ := Prod.mk.inj (Option.some.inj hb)
      rw [hnb1]; exact hm2
    · rw [if_neg e] at hnb1
      rw [hnb1]; exact hm2
  obtain ⟨es1, c1, hq1, hqo⟩ := (hmv1 0).rep.map b bb nb1 m2 hS1 hmp1
  obtain ⟨es2, c2, l2, hqo2, hperm, hrun2⟩ := update_all Try.underlying84 Try.underlying9 hqo ar x m2
  have hl2 : l2.length ≤ 40 := by
    rw [hperm.length_eq]
    simp only [List.length_cons]
    omega
  refine ⟨m, m2, .map es' c, .map es2 c2, l2, ⟨hm, fun j ty => hrun _ ty hm1, fun j => hrun2 _ hq1, fun j => by rw [(hmv1 j).rep.cellN hS1 10]; show some (Value.map nb1.mp) = _; rw [hmp1], fun j => ?_, fun j => ?_, hperm⟩⟩
  · rw [(hmv1 j).rep.cellN hS1x 0]
    show some (Value.int .i64 nx.ino) = _
    rw [h.ino x bx nx hx]
  · exact (hmv1 j).drew.setMap hS1 hmp1 es2 c2 l2 hqo2 hl2
end Go.Proofs.Ytafonmnfeibaiaa
