/- Part 3 of the proof: contracts of functions that the statement reaches, and plain lemmas. -/
import Derived.Test.YtafonmnfeibaiaaGreatAll1
import Derived.Sort.KeysCollected
import Derived.Laws.OwnMore
import Derived.Deep.MidRow
import Derived.Test.YtafonmnfeibaiaaGreatAll0
import Derived.Deep.LoopGhost
import Derived.Test.YtafonmnfeibaiaaGreatProg
import Derived.WalkKit
import Derived.Lib.Hide
import Derived.Laws.BitsLemmas
import Derived.BigRegion
import Derived.RegionTactic
import Derived.StillTailTactics
import Derived.Laws.ResultCell
import Derived.Lib.IndexLaws
import Derived.Lib.TrimByte
import Derived.Lib.LastIndexByte
import Derived.WalkLawsBesides
import Derived.WalkSpells
import Derived.Outline
import Derived.Below
import Derived.BigQuiet
import Derived.Deep.QuietTactic
import Derived.OwnWalk
import Derived.Maps.AppendAt
import Derived.RangeFuncNested
import Derived.RangeFuncBound
import Derived.RangeFuncCalls
import Derived.RangeFuncLeaves
import Derived.Shelf.Abstract
import Derived.Shelf.RegionOpen
import Derived.OwnWalkIn
import Derived.TacticsInMore
import Derived.LoopNIn
import Derived.LoopIn
import Derived.Laws.AppendOwn
import Derived.Deep.RegionHeld3
import Derived.IntWalk
import Derived.Laws.StructEq
set_option linter.all false
set_option maxRecDepth 100000
set_option maxHeartbeats 40000000
namespace Go.Proofs.YtafonmnfeibaiaaGreat
open Go.RowKit
theorem delL_len {l : List (ByteArray × Nat)} (h : (l.map (·.1)).Nodup) {s : ByteArray} {x : Nat} (hl : look l s = some x) : (delL l s).length + 1 = l.length := by
 obtain ⟨j, _, hj, hd, _⟩ := findNow_some_of s x ((entVals l).map fun p => ⟨p.1, p.2, 0⟩) l 0 (by simp [entVals]) hl
 have hj' : j < l.length := by simpa [entVals] using hj
 rw [← hd, List.length_eraseIdx, if_pos hj']
 omega
theorem delL_none {l : List (ByteArray × Nat)} {s : ByteArray} (hl : look l s = none) : delL l s = l := by
 simp only [look, Option.map_eq_none_iff, List.find?_eq_none] at hl
 exact List.eraseP_of_forall_not (fun p hp => by simpa using hl p hp)
theorem delL_le (l : List (ByteArray × Nat)) (s : ByteArray) : (delL l s).length ≤ l.length := List.length_eraseP_le
theorem delL_nodup {l : List (ByteArray × Nat)} (h : (l.map (·.1)).Nodup) (s : ByteArray) : ((delL l s).map (·.1)).Nodup :=
 List.Nodup.sublist (List.eraseP_sublist.map _) h
theorem ents_perm {l l' : List (ByteArray × Nat)} (h : l.Perm l') : (ents l).Perm (ents l') := h.map _
section
variable {w : World} {t : Nat} {S : Tab} {T : IT.Tr} (h : Tre w t S T) {d b x bd bb bx : Nat} {nd nb nx : Nd} {n q m : IT.Nd} (hd : S d = some (bd, nd)) (hb : S b = some (bb, nb)) (hx : S x = some (bx, nx)) (hT : T d = some n) (hQ : T b = some q) (hX : T x = some m)
variable {s ar : ByteArray} (hne : x ≠ d) (hxb : x ≠ b) (hf : IT.findN (bs s) n.names = some x) {nb1 : Nd} (hnb1 : nb1 = if b = d then { nd with names := delL nd.names s } else nb)
include h hd hb hx hT hQ hX hne hxb hf hnb1
theorem moved_tie1 : IT.Ties (IT.updK (kpOf S) d (some { kp nd with names := ents (delL nd.names s) })) (IT.delT T d x (bs s) n m) (fun y => IT.calm y + IT.single x y) ∧
  IT.updK (kpOf S) d (some { kp nd with names := ents (delL nd.names s) }) b = some (kp nb1) ∧ IT.updK (kpOf S) d (some { kp nd with names := ents (delL nd.names s) }) x = some (kp nx) := by
 have _ := hQ
 have _ := hxb
 have hrd := (h.snd.1.rng _ n hT).2
 have hrx := (h.snd.1.rng _ m hX).2
 refine ⟨h.ties.delP hT hX hne hrd hrx (h.snd.1.ord _ n hT) hf (kpOf_some hd) (ents (delL nd.names s)) (by rw [ents_del s (h.rep.nodup hd)]; exact List.Perm.refl _), ?_, ?_⟩
 · by_cases e : b = d
   · rw [if_pos e] at hnb1
     subst e
     rw [IT.updK_same, hnb1]; rfl
   · rw [if_neg e] at hnb1
     rw [IT.updK_other _ _ e, hnb1]; exact kpOf_some hb
 · rw [IT.updK_other _ _ hne]; exact kpOf_some hx
theorem kpOf_moved (l2 : List (ByteArray × Nat)) : kpOf (movedS S d b x bd nd bb nb1 bx nx s l2) = IT.updK (IT.updK (IT.updK (kpOf S) d (some { kp nd with names := ents (delL nd.names s) })) x (some { kp nx with parent := if (kp nx).kind = 1 then b else (kp nx).parent })) b (some { kp nb1 with names := ents l2 }) := by
 have _ := h
 have _ := hd
 have _ := hb
 have _ := hx
 have _ := hT
 have _ := hQ
 have _ := hX
 have _ := hne
 have _ := hf
 have _ := hnb1
 unfold movedS
 rw [kpOf_upd, kpOf_upd, kpOf_upd, IT.updK_comm _ (Ne.symm hxb)]
 rfl
theorem moved_none {q1 : IT.Nd} (hq1 : IT.delT T d x (bs s) n m b = some q1) {l2 : List (ByteArray × Nat)} (hl2 : l2.Perm ((ar, x) :: delL nb1.names ar)) (hno : look nb1.names ar = none) :
  IT.Ties (kpOf (movedS S d b x bd nd bb nb1 bx nx s l2)) (IT.entT (IT.delT T d x (bs s) n m) b x (bs ar) q1 (IT.alone x m)) IT.calm := by
 obtain ⟨h1, h2, h3⟩ := moved_tie1 h hd hb hx hT hQ hX hne hxb hf hnb1
 rw [kpOf_moved h hd hb hx hT hQ hX hne hxb hf hnb1]
 refine h1.entP rfl hq1 (IT.del_at_x hne) hxb (h.snd.1.rng _ q hQ).2 (h.snd.1.rng _ m hX).2 h2 h3 (ents l2) ?_
 have e := ents_perm hl2
 rw [delL_none hno] at e
 exact e
theorem moved_over {w1 : Nat} {mw q1 : IT.Nd} (hq1 : IT.delT T d x (bs s) n m b = some q1) (hwS : IT.delT T d x (bs s) n m w1 = some mw) (hwb : w1 ≠ b) (hwx : w1 ≠ x) (hw2 : w1 ≤ 200) (ho : IT.Ord q1.names) (hfq : IT.findN (bs ar) q1.names = some w1) {l2 : List (ByteArray × Nat)} (hl2 : l2.Perm ((ar, x) :: delL nb1.names ar)) (hnd : (nb1.names.map (·.1)).Nodup) :
  IT.Ties (kpOf (movedS S d b x bd nd bb nb1 bx nx s l2)) (IT.entT (IT.delT (IT.delT T d x (bs s) n m) b w1 (bs ar) q1 mw) b x (bs ar) { q1 with names := IT.delN (bs ar) q1.names } (IT.alone x m)) (IT.single w1) := by
 obtain ⟨h1, h2, h3⟩ := moved_tie1 h hd hb hx hT hQ hX hne hxb hf hnb1
 have hb2 := (h.snd.1.rng _ q hQ).2
 have hx2 := (h.snd.1.rng _ m hX).2
 have g1 := h1.delP (nm := bs ar) hq1 hwS hwb hb2 hw2 ho hfq h2 (ents (delL nb1.names ar)) (by rw [ents_del ar hnd]; exact List.Perm.refl _)
 rw [kpOf_moved h hd hb hx hT hQ hX hne hxb hf hnb1]
 have e : (fun y => (IT.calm y + IT.single x y) + IT.single w1 y) = fun y => IT.single w1 y + IT.single x y := by
  funext y
  show (0 + IT.single x y) + IT.single w1 y = _
  omega
 rw [e] at g1
 have g2 := g1.entP (d := b) (nm := bs ar) (IT.single_other (Ne.symm hwx)) IT.del_at_d (show IT.delT (IT.delT T d x (bs s) n m) b w1 (bs ar) q1 mw x = some (IT.alone x m) by rw [IT.del_at hxb (Ne.symm hwx)]; exact IT.del_at_x hne) hxb hb2 hx2 (IT.updK_same _ _ _) (by rw [IT.updK_other _ _ hxb]; exact h3) (ents l2) (ents_perm hl2)
 rw [IT.updK_comm _ (Ne.symm hxb), IT.updK_twice] at g2
 exact g2
end
open Classical in
theorem move_any {w : World} {t : Nat} {S : Tab} {T : IT.Tr} (h : Tre w t S T) (d b : Int) (s ar : ByteArray) :
  Calls Tryz.prog 49 #[.pointer (some ⟨t, 0, none⟩), .int .i64 d, .string s, .int .i64 b, .string ar] w fun e w' => ∃ r, e = .returned (.int .i64 r) ∧ Stp w t S (fun T' => IT.isMove okN T d.toNat (bs s) b.toNat (bs ar) r T') w' := by
 have hstay : ∀ {r : Int} {e : Ending} {w' : World}, IT.isMove okN T d.toNat (bs s) b.toNat (bs ar) r T → e = .returned (.int .i64 r) ∧ w = w' → ∃ r, e = .returned (.int .i64 r) ∧ Stp w t S (fun T' => IT.isMove okN T d.toNat (bs s) b.toNat (bs ar) r T') w' := by
  rintro r e w' hr ⟨rfl, rfl⟩
  exact ⟨r, rfl, Stp.keep h hr⟩
 have hstayB : ∀ {r : Int} {e : Ending} {w' : World}, IT.isMove okN T d.toNat (bs s) b.toNat (bs ar) r T → e = .returned (.int .i64 r) ∧ Below w.heap.size w w' → ∃ r, e = .returned (.int .i64 r) ∧ Stp w t S (fun T' => IT.isMove okN T d.toNat (bs s) b.toNat (bs ar) r T') w' := by
  rintro r e w' hr ⟨rfl, hb⟩
  exact ⟨r, rfl, Stp.keepB h hb hr⟩
 cases hd : S d.toNat with
 | none =>
   refine (mv_no h.rep d b s ar (.inl hd)).mono fun e w' => hstay ?_
   unfold IT.isMove; rw [(h.none_iff _).1 hd]; exact ⟨rfl, rfl⟩
 | some p1 =>
   obtain ⟨bd, nd⟩ := p1
   obtain ⟨n, hT, hkp⟩ := h.get hd
   cases hb : S b.toNat with
   | none =>
     refine (mv_no h.rep d b s ar (.inr hb)).mono fun e w' => hstay ?_
     unfold IT.isMove; rw [hT, (h.none_iff _).1 hb]; exact ⟨rfl, rfl⟩
   | some p2 =>
     obtain ⟨bb, nb⟩ := p2
     obtain ⟨q, hQ, hkq⟩ := h.get hb
     have hkd : nd.kind = n.kind := hkp.kind
     have hkb : nb.kind = q.kind := hkq.kind
     by_cases h1 : n.kind = 1
     case neg =>
      refine (mv_kind1 h.rep d b hd hb s ar (by rw [hkd]; exact h1)).mono fun e w' => hstay ?_
      unfold IT.isMove; rw [hT, hQ]; dsimp only; rw [if_pos (.inl h1)]; exact ⟨rfl, rfl⟩
     by_cases h2 : q.kind = 1
     case neg =>
      refine (mv_kind2 h.rep d b hd hb s ar (by rw [hkd]; exact h1) (by rw [hkb]; exact h2)).mono fun e w' => hstay ?_
      unfold IT.isMove; rw [hT, hQ]; dsimp only; rw [if_pos (.inr h2)]; exact ⟨rfl, rfl⟩
     have hkd1 := hkd.trans h1
     have hkb1 := hkb.trans h2
     have hk12 : ¬ (n.kind ≠ 1 ∨ q.kind ≠ 1) := by rintro (a | a); exact a h1; exact a h2
     have hlo := h.look hd hT s
     cases hl : look nd.names s with
     | none =>
       refine (mv_noent h.rep d b hd hb s ar hkd1 hkb1 hl).mono fun e w' => hstay ?_
       unfold IT.isMove; rw [hT, hQ]; dsimp only; rw [if_neg hk12, ← hlo, hl]; exact ⟨rfl, rfl⟩
     | some x =>
       have hfn : IT.findN (bs s) n.names = some x := by rw [← hlo]; exact hl
       obtain ⟨m, hX⟩ := h.snd.1.lead _ n (bs s, x) hT (IT.find_mem hfn)
       obtain ⟨bx, nx, hx, hkx⟩ := h.back hX
       have hkxx : nx.kind = m.kind := hkx.kind
       have pre : ∀ {r : Int} {T' : IT.Tr}, (if okN (bs ar) = false then r = 1 ∧ T' = T
         else if m.kind = 1 ∧ IT.Bel T x b.toNat then r = 8 ∧ T' = T
         else match IT.findN (bs ar) q.names with
          | none =>
            if d.toNat ≠ b.toNat ∧ q.names.length ≥ 40 then r = 9 ∧ T' = T
            else r = 0 ∧ ∃ q1 m1, IT.delT T d.toNat x (bs s) n m b.toNat = some q1 ∧ IT.delT T d.toNat x (bs s) n m x = some m1 ∧ T' = IT.entT (IT.delT T d.toNat x (bs s) n m) b.toNat x (bs ar) q1 m1
          | some w => if w = x then r = 0 ∧ T' = T
            else ∃ mw, T w = some mw ∧
             if ¬ (mw.kind = 1 ↔ m.kind = 1) then r = 7 ∧ T' = T
             else if mw.names ≠ [] then r = 8 ∧ T' = T
             else r = 0 ∧ ∃ q1 q2 m2, IT.delT T d.toNat x (bs s) n m b.toNat = some q1 ∧ IT.delT (IT.delT T d.toNat x (bs s) n m) b.toNat w (bs ar) q1 mw b.toNat = some q2 ∧ IT.delT (IT.delT T d.toNat x (bs s) n m) b.toNat w (bs ar) q1 mw x = some m2 ∧ IT.NF (IT.entT (IT.delT (IT.delT T d.toNat x (bs s) n m) b.toNat w (bs ar) q1 mw) b.toNat x (bs ar) q2 m2) T') →
         IT.isMove okN T d.toNat (bs s) b.toNat (bs ar) r T' := by
        intro r T' hh
        unfold IT.isMove; rw [hT, hQ]; dsimp only; rw [if_neg hk12, hfn]
        exact ⟨m, hX, hh⟩
       by_cases h3 : nameB ar = true
       case neg =>
        have h3 : nameB ar = false := by simpa using h3
        refine (mv_noname h.rep d b hd hb s ar hkd1 hkb1 hl hx h3).mono fun e w' => hstay (pre ?_)
        rw [if_pos (by rw [← nameB_ok]; exact h3)]; exact ⟨rfl, rfl⟩
       have hok : okN (bs ar) = true := by rw [← nameB_ok]; exact h3
       have hokn : ¬ okN (bs ar) = false := by rw [hok]; intro e; cases e
       by_cases h4 : m.kind = 1 ∧ IT.Bel T x b.toNat
       · have hwi := (within_any h hb hx hQ h2).mono (R' := fun e w' => e = .returned (.bool true) ∧ Below w.heap.size w w') (by
          rintro e w' ⟨r, rfl, hr, hbl⟩
          exact ⟨by rw [hr.2 h4.2], hbl⟩)
         refine (mv_in h.rep d b hd hb s ar hkd1 hkb1 hl hx h3 (hkxx.trans h4.1) hwi).mono fun e w' => hstayB (pre ?_)
         rw [if_neg hokn, if_pos h4]; exact ⟨rfl, rfl⟩
       have hwi : m.kind = 1 → Calls Tryz.prog 85 #[.pointer (some ⟨t, 0, none⟩), .pointer (some ⟨bb, 0, none⟩), .pointer (some ⟨bx, 0, none⟩)] w fun e w' => e = .returned (.bool false) ∧ Below w.heap.size w w' := fun hmk =>
        (within_any h hb hx hQ h2).mono (by
          rintro e w' ⟨r, rfl, hr, hbl⟩
          cases r with
          | true => exact absurd ⟨hmk, hr.1 rfl⟩ h4
          | false => exact ⟨rfl, hbl⟩)
       have hlq := h.look hb hQ ar
       obtain ⟨hne, hxb, hx1⟩ := IT.move_ne h.snd hT hQ h1 h2 hfn hX hok h4
       cases hla : look nb.names ar with
       | none =>
         have hfa : IT.findN (bs ar) q.names = none := by rw [← hlq]; exact hla
         have hlen := names_nil hkq.names
         by_cases h5 : d.toNat ≠ b.toNat ∧ q.names.length ≥ 40
         · have fin := pre (r := 9) (T' := T) (by rw [if_neg hokn, if_neg h4, hfa]; dsimp only; rw [if_pos h5]; exact ⟨rfl, rfl⟩)
           by_cases hk : m.kind = 1
           · exact (mv_fulld h.rep d b hd hb s ar hkd1 hkb1 hl hx h3 (hkxx.trans hk) (hwi hk) hla h5.1 (by omega)).mono fun e w' => hstayB fin
           · exact (mv_fullf h.rep d b hd hb s ar hkd1 hkb1 hl hx h3 (by rw [hkxx]; exact hk) hla h5.1 (by omega)).mono fun e w' => hstayB fin
         · obtain ⟨q1, hq1, _, _⟩ := IT.move_q h.snd hT hQ h1 h2 hfn hX hok h4
           obtain ⟨nb1, hnb1⟩ : ∃ nb1 : Nd, nb1 = if b.toNat = d.toNat then { nd with names := delL nd.names s } else nb := ⟨_, rfl⟩
           have hnd1 : (nd.names.map (·.1)).Nodup := h.rep.nodup hd
           have hno : look nb1.names ar = none ∧ nb1.names.length < 40 := by
            by_cases e : b.toNat = d.toNat
            · rw [if_pos e] at hnb1
              rw [e, hd] at hb
              obtain ⟨_, rfl⟩ := Prod.mk.inj (Option.some.inj hb)
              rw [hnb1]
              show look (delL nd.names s) ar = none ∧ (delL nd.names s).length < 40
              have h40 := (h.rep.small _ _ _ hd).2
              refine ⟨?_, by have := delL_len hnd1 hl; omega⟩
              simp only [look, Option.map_eq_none_iff, List.find?_eq_none] at hla ⊢
              exact fun p hp => hla p (List.eraseP_sublist.subset hp)
            · rw [if_neg e] at hnb1
              rw [hnb1]
              exact ⟨hla, by have : ¬ q.names.length ≥ 40 := fun a => h5 ⟨fun e2 => e e2.symm, a⟩; omega⟩
           have h40 : (delL nb1.names ar).length < 40 := by rw [delL_none hno.1]; exact hno.2
           have fin : ∀ {e : Ending} {w' : World}, (e = .returned (.int .i64 0) ∧ ∃ l2 : List (ByteArray × Nat), l2.Perm ((ar, x) :: delL nb1.names ar) ∧ Mv w t S w' (movedS S d.toNat b.toNat x bd nd bb nb1 bx nx s l2)) → ∃ r, e = .returned (.int .i64 r) ∧ Stp w t S (fun T' => IT.isMove okN T d.toNat (bs s) b.toNat (bs ar) r T') w' := by
            rintro e w' ⟨rfl, l2, hl2, hmv⟩
            refine ⟨0, rfl, _, _, hmv, moved_none h hd hb hx hT hQ hX hne hxb hfn hnb1 hq1 hl2 hno.1, pre ?_⟩
            rw [if_neg hokn, if_neg h4, hfa]; dsimp only; rw [if_neg h5]
            exact ⟨rfl, q1, IT.alone x m, hq1, IT.del_at_x hne, rfl⟩
           by_cases hdb : d.toNat = b.toNat
           · by_cases hk : m.kind = 1
             · exact (mv_oksd h.rep d b hd hb s ar hkd1 hkb1 hl hx h3 (hkxx.trans hk) (hwi hk) hla hdb hne hxb hnb1 h40).mono fun e w' => fin
             · exact (mv_oksf h.rep d b hd hb s ar hkd1 hkb1 hl hx h3 (by rw [hkxx]; exact hk) hla hdb hne hxb hnb1 h40).mono fun e w' => fin
           · have hfu : nb.names.length < 40 := by
              have : ¬ q.names.length ≥ 40 := fun a => h5 ⟨hdb, a⟩
              omega
             by_cases hk : m.kind = 1
             · exact (mv_oknd h.rep d b hd hb s ar hkd1 hkb1 hl hx h3 (hkxx.trans hk) (hwi hk) hla hdb hfu hne hxb hnb1 h40).mono fun e w' => fin
             · exact (mv_oknf h.rep d b hd hb s ar hkd1 hkb1 hl hx h3 (by rw [hkxx]; exact hk) hla hdb hfu hne hxb hnb1 h40).mono fun e w' => fin
       | some y =>
         have hfa : IT.findN (bs ar) q.names = some y := by rw [← hlq]; exact hla
         by_cases hyx : y = x
         · subst hyx
           have fin := pre (r := 0) (T' := T) (by rw [if_neg hokn, if_neg h4, hfa]; dsimp only; rw [if_pos rfl]; exact ⟨rfl, rfl⟩)
           by_cases hk : m.kind = 1
           · exact (mv_samed h.rep d b hd hb s ar hkd1 hkb1 hl hx h3 (hkxx.trans hk) (hwi hk) hla).mono fun e w' => hstayB fin
           · exact (mv_samef h.rep d b hd hb s ar hkd1 hkb1 hl hx h3 (by rw [hkxx]; exact hk) hla).mono fun e w' => hstayB fin
         · obtain ⟨my, hY⟩ := h.snd.1.lead _ q (bs ar, y) hQ (IT.find_mem hfa)
           obtain ⟨by_, ny, hy, hky⟩ := h.back hY
           have hkyy : ny.kind = my.kind := hky.kind
           have hleny := names_nil hky.names
           have pre2 : ∀ {r : Int} {T' : IT.Tr}, (if ¬ (my.kind = 1 ↔ m.kind = 1) then r = 7 ∧ T' = T
              else if my.names ≠ [] then r = 8 ∧ T' = T
              else r = 0 ∧ ∃ q1 q2 m2, IT.delT T d.toNat x (bs s) n m b.toNat = some q1 ∧ IT.delT (IT.delT T d.toNat x (bs s) n m) b.toNat y (bs ar) q1 my b.toNat = some q2 ∧ IT.delT (IT.delT T d.toNat x (bs s) n m) b.toNat y (bs ar) q1 my x = some m2 ∧ IT.NF (IT.entT (IT.delT (IT.delT T d.toNat x (bs s) n m) b.toNat y (bs ar) q1 my) b.toNat x (bs ar) q2 m2) T') →
             IT.isMove okN T d.toNat (bs s) b.toNat (bs ar) r T' := by
            intro r T' hh
            refine pre ?_
            rw [if_neg hokn, if_neg h4, hfa]; dsimp only; rw [if_neg hyx]
            exact ⟨my, hY, hh⟩
           by_cases hkk : my.kind = 1 ↔ m.kind = 1
           case neg =>
            have fin := pre2 (r := 7) (T' := T) (by rw [if_pos hkk]; exact ⟨rfl, rfl⟩)
            by_cases hk : m.kind = 1
            · exact (mv_kindsd h.rep d b hd hb s ar hkd1 hkb1 hl hx h3 (hkxx.trans hk) (hwi hk) hla hy hyx (by rw [hkyy]; exact fun a => hkk ⟨fun _ => hk, fun _ => a⟩)).mono fun e w' => hstayB fin
            · exact (mv_kindsf h.rep d b hd hb s ar hkd1 hkb1 hl hx h3 (by rw [hkxx]; exact hk) hla hy hyx (by
               rw [hkyy]
               exact Decidable.byContradiction fun a => hkk ⟨fun c => absurd c a, fun c => absurd c hk⟩)).mono fun e w' => hstayB fin
           by_cases hemp : my.names = []
           case neg =>
            have fin := pre2 (r := 8) (T' := T) (by rw [if_neg (fun a => a hkk), if_pos hemp]; exact ⟨rfl, rfl⟩)
            have hpos : 0 < ny.names.length := by
             rw [hleny]
             cases hmn : my.names with
             | nil => exact absurd hmn hemp
             | cons => simp
            by_cases hk : m.kind = 1
            · exact (mv_busyd h.rep d b hd hb s ar hkd1 hkb1 hl hx h3 (hkxx.trans hk) (hwi hk) hla hy hyx hpos (hkyy.trans (hkk.2 hk))).mono fun e w' => hstayB fin
            · exact (mv_busyf h.rep d b hd hb s ar hkd1 hkb1 hl hx h3 (by rw [hkxx]; exact hk) hla hy hyx hpos (by rw [hkyy]; exact fun a => hk (hkk.1 a))).mono fun e w' => hstayB fin
           have hnye : ny.names = [] := List.eq_nil_of_length_eq_zero (by rw [hleny, hemp]; rfl)
           obtain ⟨q1, hq1, hq1k, hq1e, hfq, hyb, hyd, hY1, s1, s3, hcan, hlnk⟩ := IT.move_over h.snd hT hQ h1 h2 hfn hX hok h4 hfa hyx hY hemp
           obtain ⟨nb1, hnb1⟩ : ∃ nb1 : Nd, nb1 = if b.toNat = d.toNat then { nd with names := delL nd.names s } else nb := ⟨_, rfl⟩
           have hnd1 : (nb1.names.map (·.1)).Nodup := by
            by_cases e : b.toNat = d.toNat
            · rw [if_pos e] at hnb1; rw [hnb1]; exact delL_nodup (h.rep.nodup hd) s
            · rw [if_neg e] at hnb1; rw [hnb1]; exact h.rep.nodup hb
           have hpq : (ents nb1.names).Perm q1.names := by
            by_cases e : b.toNat = d.toNat
            · rw [if_pos e] at hnb1 hq1e
              rw [hnb1, hq1e]
              show (ents (delL nd.names s)).Perm (IT.delN (bs s) n.names)
              rw [ents_del s (h.rep.nodup hd)]
              exact IT.perm_del hkp.names _
            · rw [if_neg e] at hnb1 hq1e
              rw [hnb1, hq1e]; exact hkq.names
           have hlk1 : look nb1.names ar = some y := by rw [← look_find, IT.perm_find (s1.ord _ q1 hq1) hpq]; exact hfq
           have h40 : (delL nb1.names ar).length < 40 := by
            have e1 := delL_len hnd1 hlk1
            have e2 : nb1.names.length ≤ 40 := by
             by_cases e : b.toNat = d.toNat
             · rw [if_pos e] at hnb1; rw [hnb1]
               have := (h.rep.small _ _ _ hd).2
               have := delL_le nd.names s
               show (delL nd.names s).length ≤ 40
               omega
             · rw [if_neg e] at hnb1; rw [hnb1]; exact (h.rep.small _ _ _ hb).2
            omega
           have hlo1 : ∀ (w1 : World) (l2 : List (ByteArray × Nat)), l2.Perm ((ar, x) :: delL nb1.names ar) → Mv w t S w1 (movedS S d.toNat b.toNat x bd nd bb nb1 bx nx s l2) → Calls Tryz.prog 81 #[.pointer (some ⟨t, 0, none⟩), .pointer (some ⟨by_, 0, none⟩)] w1 fun e w' => e = .returned (.tuple #[]) ∧ Stp w t S (fun T' => IT.NF (IT.entT (IT.delT (IT.delT T d.toNat x (bs s) n m) b.toNat y (bs ar) q1 my) b.toNat x (bs ar) { q1 with names := IT.delN (bs ar) q1.names } (IT.alone x m)) T') w' := by
            intro w1 l2 hl2 hmv
            refine loses_one hmv s3 (moved_over h hd hb hx hT hQ hX hne hxb hfn hnb1 hq1 hY1 hyb hyx (h.snd.1.rng _ my hY).2 (s1.ord _ q1 hq1) hfq hl2 hnd1) (fun y' => by rw [hlnk]; exact h.snd.1.many y') hcan (n := ny) ?_
            unfold movedS
            rw [upd_other _ _ hyx, upd_other _ _ hyb, upd_other _ _ hyd]
            exact hy
           have fin : ∀ {e : Ending} {w' : World}, (e = .returned (.int .i64 0) ∧ Stp w t S (fun T' => IT.NF (IT.entT (IT.delT (IT.delT T d.toNat x (bs s) n m) b.toNat y (bs ar) q1 my) b.toNat x (bs ar) { q1 with names := IT.delN (bs ar) q1.names } (IT.alone x m)) T') w') → ∃ r, e = .returned (.int .i64 r) ∧ Stp w t S (fun T' => IT.isMove okN T d.toNat (bs s) b.toNat (bs ar) r T') w' := by
            rintro e w' ⟨rfl, S', T', g1, g2, g3⟩
            refine ⟨0, rfl, S', T', g1, g2, pre2 ?_⟩
            rw [if_neg (fun a => a hkk), if_neg (fun a => a hemp)]
            exact ⟨rfl, q1, _, IT.alone x m, hq1, IT.del_at_d, by rw [IT.del_at hxb (Ne.symm hyx)]; exact IT.del_at_x hne, g3⟩
           by_cases hk : m.kind = 1
           · exact (mv_overd h.rep d b hd hb s ar hkd1 hkb1 hl hx h3 (hkxx.trans hk) (hwi hk) hla hy hyx hne hxb hnb1 h40 hnye hlo1 (hkyy.trans (hkk.2 hk))).mono fun e w' => fin
           · exact (mv_overf h.rep d b hd hb s ar hkd1 hkb1 hl hx h3 (by rw [hkxx]; exact hk) hla hy hyx hne hxb hnb1 h40 hnye hlo1 (by rw [hkyy]; exact fun a => hk (hkk.1 a))).mono fun e w' => fin
end Go.Proofs.YtafonmnfeibaiaaGreat
namespace Go.Proofs.YtafonmnfeibaiaaGreat
open Go.RowKit Go.Maps Go.Sort Go.Shelf
def anyR (_ : Value) : Option (DataW Unit × List MemPlace) := some (.nil, [])
theorem keys_list : ∀ (L : List MapEntry) (l : List (ByteArray × Nat)), L.map (fun e => (e.key, e.val)) = entVals l → (∀ p ∈ l, p.1.size ≤ maxLen) →
  L.map (fun e => strOf (WideElems.rg Tryz.prog 9 anyR e).1) = l.map fun p => bs p.1
 | [], [], _, _ => rfl
 | [], _ :: _, h, _ => by simp [entVals] at h
 | _ :: _, [], h, _ => by simp [entVals] at h
 | e :: L, p :: l, h, hs => by
   simp only [entVals, List.map_cons, List.cons.injEq, Prod.mk.injEq] at h
   have ih := keys_list L l h.2 fun q hq => hs q (List.mem_cons_of_mem _ hq)
   have hk : WideElems.rg Tryz.prog 9 anyR e = (.string p.1.data.toList, .nil) := by
    refine WideElems.rg_of ?_
    unfold WideElems.rd
    rw [h.1.1]
    simp [keyOf, mapKey, Tryz.underlying9, anyR, hs p (by simp)]
   rw [List.map_cons, List.map_cons, ih, hk]; rfl
theorem strKeys_map (es : List (Lit × DataW Unit)) : strKeys (DataW.map es) = es.map fun p => strOf p.1 := rfl
theorem strKeys_list (L : List MapEntry) (l : List (ByteArray × Nat)) (h : L.map (fun e => (e.key, e.val)) = entVals l) (hs : ∀ p ∈ l, p.1.size ≤ maxLen) :
  (strKeys (DataW.map ((L.map (WideElems.rg Tryz.prog 9 anyR)).foldr DataW.insert []))).Perm (l.map fun p => bs p.1) := by
 have e := (WideShapes.sorted_perm (L.map (WideElems.rg Tryz.prog 9 anyR))).map fun p => strOf p.1
 rw [List.map_map] at e
 have e2 := keys_list L l h hs
 rw [strKeys_map, ← e2]
 generalize WideElems.rg Tryz.prog 9 anyR = g at e ⊢
 exact e
theorem MapIs.owns {w : World} {m : Nat} {l : List (ByteArray × Nat)} (h : MapIs w m l) (hs : ∀ p ∈ l, p.1.size ≤ maxLen) (hl : l.length ≤ 40) :
  ∃ D0 : DataW Unit, w.ownsMap Tryz.prog 9 anyR m 40 D0 ∧ (strKeys D0).Perm (l.map fun p => bs p.1) ∧ Maps.size D0 ≤ 40 := by
 obtain ⟨es, clock, h1, h2⟩ := h
 have hlen : es.size = l.length := by have := congrArg List.length h2.vals; simpa [entVals] using this
 refine ⟨_, ⟨es, clock, h1, ⟨?_, (MapKept.stamped_iff es clock).2 ⟨h2.born, h2.apart, ?_⟩, fun x hx => ?_⟩, by omega, rfl⟩, ?_, ?_⟩
 · have : (40 : Nat) ≤ maxLen := by decide
   omega
 · have e1 : es.toList.map (·.key) = l.map fun p => Value.string p.1 := by
    have := congrArg (List.map (·.1)) h2.vals
    unfold entVals at this
    rw [List.map_map, List.map_map] at this
    exact this
   have e2 : (es.toList.map (·.key)).Pairwise (· ≠ ·) := by
    rw [e1, List.pairwise_map]
    have e3 := List.pairwise_map.1 h2.keys
    exact e3.imp fun hne e => hne (Value.string.inj e)
   exact List.pairwise_map.1 e2
 · have hm : (x.key, x.val) ∈ entVals l := by rw [← h2.vals]; exact List.mem_map.2 ⟨x, hx, rfl⟩
   obtain ⟨p, hp, e⟩ := entVals_mem hm
   obtain ⟨e1, _⟩ := Prod.mk.inj e
   refine ⟨(.string p.1.data.toList, .nil), ?_⟩
   unfold WideElems.rd
   rw [e1]
   simp [keyOf, mapKey, Tryz.underlying9, anyR, hs p hp]
 · exact strKeys_list es.toList l h2.vals hs
 · show ((es.toList.map (WideElems.rg Tryz.prog 9 anyR)).foldr DataW.insert []).length ≤ 40
   have e := length_sorted (es.toList.map (WideElems.rg Tryz.prog 9 anyR))
   rw [List.length_map, Array.length_toList] at e
   exact Nat.le_trans (Nat.le_of_eq (e.trans hlen)) hl
def namesT (T : IT.Tr) (k : Nat) : List IT.Bytes := match T k with
 | none => []
 | some m => m.names.map (·.1)
theorem ord_sorted {l : List (IT.Bytes × Nat)} (h : IT.Ord l) {ss : List (List UInt8)} (hp : ss.Perm (l.map (·.1))) : ss.mergeSort (fun x y => decide (x ≤ y)) = l.map (·.1) := by
 rw [mergeSort_of_perm hp]
 refine List.mergeSort_of_pairwise ?_
 rw [List.pairwise_map]
 exact h.imp fun hlt => by simpa using List.le_of_lt hlt
theorem names_map {w : World} {t b mb : Nat} {S : Tab} {n : Nd} (h : Rep w t S) (ki : Int) (hk : S ki.toNat = some (b, n)) (hm : n.mp = some mb) (D0 : DataW Unit) (hown : w.ownsMap Tryz.prog 9 anyR mb 40 D0) (hsz : Maps.size D0 ≤ 40) :
  Calls Tryz.prog 26 #[.pointer (some ⟨t, 0, none⟩), .int .i64 ki] w fun e w' => ∃ (v : Value) (ss : List (List UInt8)), e = .returned v ∧ ss.Perm (strKeys D0) ∧
   w'.ownsRow w.heap.size 9 1 v ss.length ((ss.mergeSort (fun x y => decide (x ≤ y))).map encStr) ∧ (v = .slice none 0 0 ↔ ss = []) ∧ Below w.heap.size w w' := by
 have c10 : w.cell? ⟨b, 10, none⟩ = some (.map (some mb)) := by rw [h.cellN hk 10]; show some (Value.map n.mp) = _; rw [hm]
 have hmax : Maps.size D0 ≤ maxLen := Nat.le_trans hsz (by decide)
 have hbytes : Maps.size D0 * 16 ≤ 140737488355328 := by omega
 have H := Hd h
 have HK := Hd hk
 clear h hk hm hsz
 refine (callsIn_wide (n := 6)).1 ?_
 have hfA : Fence.wide.fn 34 := trivial
 have hfK : Fence.wide.fn 52 := trivial
 have hfS : Fence.wide.fn 51 := trivial
 refine callsIn_of_wp Tryz.func26 rfl trivial ?_ rfl
 simp only [Tryz.ntmps26, List.size_toArray, List.length_cons, List.length_nil, Nat.reduceAdd, Nat.reduceSub, Array.replicate_succ, Array.replicate_zero, List.push_toArray, List.append_toArray, List.nil_append, List.cons_append]
 gi_wp2_with (first
  | (gi_at_call 34; refine (callsIn_wide.2 (H.out.at_some _ HK.out)).mono ?_; rintro e w' ⟨rfl, rfl⟩)
  | (gi_at_call 52; refine (Tryz.maps_Keys_52 _ _).mono ?_; rintro e w' ⟨rfl, rfl⟩)
  | (gi_at_call 51; refine (Tryz.slices_Sorted_keys_51_52 mb 40 D0 anyR w hown hmax hbytes).mono ?_; rintro e w' ⟨v, ss, rfl, hS, hrow, hnil, hb⟩))
 go_ret
 exact ⟨v, ss, rfl, hS, ownsRow_base_a hrow (by simp), hnil, ((Below.refl _ w).alloc (Nat.le_refl _) _).trans (hb.mono (by simp))⟩
theorem names_nomap {w : World} {t b : Nat} {S : Tab} {n : Nd} (h : Rep w t S) (ki : Int) (hk : S ki.toNat = some (b, n)) (hm : n.mp = none) :
  Calls Tryz.prog 26 #[.pointer (some ⟨t, 0, none⟩), .int .i64 ki] w fun e w' => e = .returned (.slice none 0 0) ∧ Below w.heap.size w w' := by
 have c10 : w.cell? ⟨b, 10, none⟩ = some (.map none) := by rw [h.cellN hk 10]; show some (Value.map n.mp) = _; rw [hm]
 have H := Hd h
 have HK := Hd hk
 clear h hk hm
 refine (callsIn_wide (n := 6)).1 ?_
 have hfA : Fence.wide.fn 34 := trivial
 have hfK : Fence.wide.fn 52 := trivial
 have hfS : Fence.wide.fn 51 := trivial
 refine callsIn_of_wp Tryz.func26 rfl trivial ?_ rfl
 simp only [Tryz.ntmps26, List.size_toArray, List.length_cons, List.length_nil, Nat.reduceAdd, Nat.reduceSub, Array.replicate_succ, Array.replicate_zero, List.push_toArray, List.append_toArray, List.nil_append, List.cons_append]
 gi_wp2_with (first
  | (gi_at_call 34; refine (callsIn_wide.2 (H.out.at_some _ HK.out)).mono ?_; rintro e w' ⟨rfl, rfl⟩)
  | (gi_at_call 52; refine (Tryz.maps_Keys_52 _ _).mono ?_; rintro e w' ⟨rfl, rfl⟩)
  | (gi_at_call 51; refine (Tryz.slices_Sorted_keys_nil_51_52 w).mono ?_; rintro e w' ⟨v, ss, rfl, hS, hrow, hnil, hb⟩))
 go_ret
 exact ⟨by rw [hnil.2 hS]; rfl, ((Below.refl _ w).alloc (Nat.le_refl _) _).trans (hb.mono (by simp))⟩
theorem names_none {w : World} {t : Nat} {S : Tab} (h : Rep w t S) (ki : Int) (hk : S ki.toNat = none) :
  Calls Tryz.prog 26 #[.pointer (some ⟨t, 0, none⟩), .int .i64 ki] w fun e w' => e = .returned (.slice none 0 0) ∧ w = w' := by
 have H := Hd h
 have HK := Hd hk
 clear h hk
 go_enter Tryz.func26, Tryz.ntmps26
 go_wp2_with fail
 refine (H.out.at_none _ HK.out).mono ?_
 rintro e w' ⟨rfl, rfl⟩
 go_wp2
 go_ret
 exact ⟨rfl, rfl⟩
theorem okN_len {l : IT.Bytes} (h : okN l = true) : l.length ≤ 14 := (of_decide_eq_true h).2.1
theorem names_any {w : World} {t : Nat} {S : Tab} {T : IT.Tr} (h : Tre w t S T) (ki : Int) :
  Calls Tryz.prog 26 #[.pointer (some ⟨t, 0, none⟩), .int .i64 ki] w fun e w' => ∃ v, e = .returned v ∧ w'.ownsRow w.heap.size 9 1 v (namesT T ki.toNat).length ((namesT T ki.toNat).map encStr) ∧ (v = .slice none 0 0 ↔ namesT T ki.toNat = []) ∧ Below w.heap.size w w' := by
 have hnil : ∀ (W : World) (b : Nat), W.ownsRow b 9 1 (.slice none 0 0) 0 [] := fun W b => W.ownsRow_nil b 9 1
 unfold namesT
 cases hk : S ki.toNat with
 | none =>
   rw [(h.none_iff _).1 hk]
   refine (names_none h.rep ki hk).mono ?_
   rintro e w' ⟨rfl, rfl⟩
   exact ⟨_, rfl, hnil _ _, by simp, Below.refl _ _⟩
 | some q =>
   obtain ⟨b, n⟩ := q
   obtain ⟨m, hT, hkp⟩ := h.get hk
   rw [hT]
   have hp : (ents n.names).Perm m.names := hkp.names
   cases hm : n.mp with
   | none =>
     have hn := h.rep.nomap _ b n hk hm
     have hmn : m.names = [] := by rw [hn] at hp; exact (List.Perm.nil_eq hp).symm
     refine (names_nomap h.rep ki hk hm).mono ?_
     rintro e w' ⟨rfl, hb⟩
     dsimp only
     rw [hmn]
     exact ⟨_, rfl, hnil _ _, by simp, hb⟩
   | some mb =>
     have hs : ∀ p ∈ n.names, p.1.size ≤ maxLen := fun p hpm => by
      have h1 := h.snd.1.okn _ m (bs p.1, p.2) hT (hp.mem_iff.1 (List.mem_map.2 ⟨p, hpm, rfl⟩))
      have h2 := okN_len h1
      rw [bs_len] at h2
      exact Nat.le_trans h2 (by decide)
     obtain ⟨D0, hown, hpk, hsz⟩ := (h.rep.map _ b n mb hk hm).owns hs (h.rep.small _ b n hk).2
     refine (names_map h.rep ki hk hm D0 hown hsz).mono ?_
     rintro e w' ⟨v, ss, rfl, hS, hrow, hv, hb⟩
     have hss : ss.Perm (m.names.map (·.1)) := by
      refine (hS.trans hpk).trans ?_
      have := hp.map (·.1)
      unfold ents at this
      rw [List.map_map] at this
      exact this
     have hlen : ss.length = (m.names.map (·.1)).length := hss.length_eq
     rw [ord_sorted (h.snd.1.ord _ m hT) hss, hlen] at hrow
     refine ⟨v, rfl, hrow, ?_, hb⟩
     rw [hv]
     constructor
     · intro e; rw [e] at hss; exact (List.Perm.nil_eq hss).symm
     · intro e
       dsimp only at e
       rw [e] at hss; exact hss.eq_nil
end Go.Proofs.YtafonmnfeibaiaaGreat
namespace Go.Proofs.YtafonmnfeibaiaaGreat.RF
open Go.RowKit
theorem lA : type_of% @List.getElem_toArray := @List.getElem_toArray
theorem lB : type_of% @List.getElem_cons_zero := @List.getElem_cons_zero
theorem lC : type_of% @List.getElem_cons_succ := @List.getElem_cons_succ
theorem lD : type_of% @List.setIfInBounds_toArray := @List.setIfInBounds_toArray
theorem lE : type_of% @List.set_cons_zero := @List.set_cons_zero
theorem lF : type_of% @List.set_cons_succ := @List.set_cons_succ
structure RN where
 is : Bool
 kind : Int
 mode : Int
 owner : Int
 group : Int
 tty : Int
 holds : Int
 parent : Int
 data : ByteArray
 sl : Value
 ents : List (ByteArray × Nat)
def RN.cells (n : RN) : List Value := [.bool n.is, .int .i64 n.kind, .int .i64 n.mode, .int .i64 n.owner, .int .i64 n.group, .int .i64 n.tty, .int .i64 n.holds, .int .i64 n.parent, .string n.data, n.sl]
def noRN : RN := ⟨false, 0, 0, 0, 0, 0, 0, 0, ⟨#[]⟩, .slice none 0 0, []⟩
abbrev Gt := Nat → RN
theorem cells_len (n : RN) : n.cells.length = 10 := rfl
def rowA (G : Gt) : Array Value := Array.ofFn (n := 2010) fun i => ((G (i.val / 10)).cells)[i.val % 10]'(by rw [cells_len]; omega)
theorem rowA_size (G : Gt) : (rowA G).size = 2010 := by simp [rowA]
theorem rowA_get (G : Gt) (i : Nat) (h : i < 2010) : (rowA G)[i]? = (G (i / 10)).cells[i % 10]? := by
 have h2 : i % 10 < (G (i / 10)).cells.length := by rw [cells_len]; omega
 rw [List.getElem?_eq_getElem h2]
 simp [rowA, h]
theorem rowA_at (G : Gt) {k j : Nat} (hk : k ≤ 200) (hj : j < 10) : (rowA G)[k * 10 + j]? = (G k).cells[j]? := by
 rw [rowA_get G _ (by omega), show (k * 10 + j) / 10 = k by omega, show (k * 10 + j) % 10 = j by omega]
def updG (G : Gt) (k : Nat) (n : RN) : Gt := fun j => if j = k then n else G j
theorem updG_same (G : Gt) (k : Nat) (n : RN) : updG G k n k = n := if_pos rfl
theorem updG_other (G : Gt) {k j : Nat} (n : RN) (h : j ≠ k) : updG G k n j = G j := if_neg h
theorem rowA_set (G : Gt) {k j : Nat} (hk : k ≤ 200) (hj : j < 10) (v : Value) (n : RN) (hn : n.cells = (G k).cells.set j v) : (rowA G).setIfInBounds (k * 10 + j) v = rowA (updG G k n) := by
 apply Array.ext_getElem?
 intro i
 rw [Array.getElem?_setIfInBounds, rowA_size]
 by_cases hi : i < 2010
 · rw [rowA_get _ i hi, rowA_get _ i hi]
   by_cases e : i / 10 = k
   · subst e
     rw [updG_same, hn, List.getElem?_set]
     by_cases e2 : i / 10 * 10 + j = i
     · have e3 : j = i % 10 := by omega
       rw [if_pos e2, if_pos (by omega), if_pos e3, if_pos (by rw [cells_len]; exact hj)]
     · have e3 : ¬ j = i % 10 := by omega
       rw [if_neg e2, if_neg e3]
   · rw [updG_other _ _ e, if_neg (by omega)]
 · have h1 : (rowA G)[i]? = none := Array.getElem?_eq_none (by rw [rowA_size]; omega)
   have h2 : (rowA (updG G k n))[i]? = none := Array.getElem?_eq_none (by rw [rowA_size]; omega)
   rw [h1, h2, if_neg (by omega)]
def flatE (l : List (ByteArray × Nat)) : List Value := l.flatMap fun p => [.string p.1, .int .i64 (p.2 : Int)]
theorem flatE_len : ∀ l, (flatE l).length = l.length * 2
 | [] => rfl
 | p :: l => by
   have := flatE_len l
   unfold flatE at this ⊢
   simp only [List.flatMap_cons, List.length_append, List.length_cons, List.length_nil]
   omega
theorem flatE_get : ∀ (l : List (ByteArray × Nat)) (j : Nat) (p : ByteArray × Nat), l[j]? = some p → (flatE l)[2 * j]? = some (.string p.1) ∧ (flatE l)[2 * j + 1]? = some (.int .i64 (p.2 : Int))
 | [], j, p, h => by cases h
 | q :: l, 0, p, h => by
   obtain rfl : q = p := by simpa using h
   exact ⟨rfl, rfl⟩
 | q :: l, j + 1, p, h => by
   have ih := flatE_get l j p (by simpa using h)
   rw [show 2 * (j + 1) = 2 * j + 1 + 1 by omega, show 2 * j + 1 + 1 + 1 = (2 * j + 1) + 1 + 1 by omega]
   exact ih
theorem flatE_app (l l' : List (ByteArray × Nat)) : flatE (l ++ l') = flatE l ++ flatE l' := List.flatMap_append
theorem flatE_one : ∀ (l : List (ByteArray × Nat)), ∀ u ∈ flatE l, u.oneCell' = true
 | [], u, h => by cases h
 | p :: l, u, h => by
   unfold flatE at h
   rw [List.flatMap_cons, List.mem_append] at h
   rcases h with h | h
   · simp only [List.mem_cons, List.not_mem_nil, or_false] at h
     rcases h with rfl | rfl <;> rfl
   · exact flatE_one l u h
def EntAt (w : World) (n : RN) : Prop := w.ownsRow 0 148 2 n.sl n.ents.length (flatE n.ents)
structure Rf (w : World) (t B : Nat) (G : Gt) : Prop where
 tree : w.heap[t]? = some (.cells #[.slice (some ⟨B, 0, none⟩) 201 201] 109 (0, 0))
 row : w.heap[B]? = some (.cells (rowA G) 112 (0, 0))
 ents : ∀ k, k ≤ 200 → EntAt w (G k)
structure Mo (b : Nat) (w w' : World) : Prop where
 os : w'.os = w.os
 tape : w'.tape = w.tape
 output : w'.output = w.output
 size : w.heap.size ≤ w'.heap.size
 block : ∀ k, k < w.heap.size → k ≠ b → w'.heap[k]? = w.heap[k]?
theorem Mo.refl (b : Nat) (w : World) : Mo b w w := ⟨rfl, rfl, rfl, Nat.le_refl _, fun _ _ _ => rfl⟩
theorem Mo.trans {b : Nat} {a c d : World} (h : Mo b a c) (k : Mo b c d) : Mo b a d :=
 ⟨k.os.trans h.os, k.tape.trans h.tape, k.output.trans h.output, Nat.le_trans h.size k.size, fun i hi hb => (k.block i (Nat.lt_of_lt_of_le hi h.size) hb).trans (h.block i hi hb)⟩
theorem Mo.of {b : Nat} {w w' : World} (h : Below w.heap.size w w') : Mo b w w' := ⟨h.os, h.tape, h.output, h.size, fun k hk _ => h.block k hk⟩
theorem Mo.set {b i : Nat} {a w : World} (h : Mo b a w) (v : Value) : Mo b a (w.setCell ⟨b, i, none⟩ v) where
 os := h.os
 tape := h.tape
 output := h.output
 size := by rw [World.size_setCell]; exact h.size
 block := fun k hk hb => by rw [Below.heap_setCell _ _ _ _ hb]; exact h.block k hk hb
theorem Mo.alloc {b : Nat} {a w : World} (h : Mo b a w) (o : Obj) : Mo b a (w.alloc o) := h.trans (Mo.of ((Below.refl _ _).alloc (Nat.le_refl _) o))
theorem Mo.drew {b : Nat} {a w : World} (h : Mo b a w) : Mo b a w.drew := h.trans (Mo.of (Below.refl _ _).drew)
theorem Mo.below {b : Nat} {a w w' : World} (h : Mo b a w) (k : Below w.heap.size w w') : Mo b a w' := h.trans (Mo.of k)
variable {w w' : World} {t B : Nat} {G : Gt}
theorem Rf.ltB (h : Rf w t B G) : B < w.heap.size := lt_of_heap h.row
theorem Rf.ltT (h : Rf w t B G) : t < w.heap.size := lt_of_heap h.tree
theorem Rf.ne (h : Rf w t B G) : t ≠ B := fun e => by
 have h1 := h.tree
 rw [e, h.row] at h1
 have := congrArg (fun o => match o with | some (Obj.cells C _ _) => C.size | _ => 0) h1
 simp [rowA_size] at this
theorem Rf.cellT (h : Rf w t B G) : w.cell? ⟨t, 0, none⟩ = some (.slice (some ⟨B, 0, none⟩) 201 201) := cell_of h.tree 0
theorem Rf.cell (h : Rf w t B G) {k j : Nat} (hk : k ≤ 200) (hj : j < 10) : w.cell? ⟨B, k * 10 + j, none⟩ = (G k).cells[j]? := (cell_of h.row _).trans (rowA_at G hk hj)
theorem Rf.c0 (h : Rf w t B G) (k : Nat) (hk : k ≤ 200) : w.cell? ⟨B, k * 10, none⟩ = some (.bool (G k).is) := h.cell (j := 0) hk (by omega)
theorem Rf.c1 (h : Rf w t B G) (k : Nat) (hk : k ≤ 200) : w.cell? ⟨B, k * 10 + 1, none⟩ = some (.int .i64 (G k).kind) := h.cell (j := 1) hk (by omega)
theorem Rf.c2 (h : Rf w t B G) (k : Nat) (hk : k ≤ 200) : w.cell? ⟨B, k * 10 + 2, none⟩ = some (.int .i64 (G k).mode) := h.cell (j := 2) hk (by omega)
theorem Rf.c3 (h : Rf w t B G) (k : Nat) (hk : k ≤ 200) : w.cell? ⟨B, k * 10 + 3, none⟩ = some (.int .i64 (G k).owner) := h.cell (j := 3) hk (by omega)
theorem Rf.c4 (h : Rf w t B G) (k : Nat) (hk : k ≤ 200) : w.cell? ⟨B, k * 10 + 4, none⟩ = some (.int .i64 (G k).group) := h.cell (j := 4) hk (by omega)
theorem Rf.c5 (h : Rf w t B G) (k : Nat) (hk : k ≤ 200) : w.cell? ⟨B, k * 10 + 5, none⟩ = some (.int .i64 (G k).tty) := h.cell (j := 5) hk (by omega)
theorem Rf.c6 (h : Rf w t B G) (k : Nat) (hk : k ≤ 200) : w.cell? ⟨B, k * 10 + 6, none⟩ = some (.int .i64 (G k).holds) := h.cell (j := 6) hk (by omega)
theorem Rf.c7 (h : Rf w t B G) (k : Nat) (hk : k ≤ 200) : w.cell? ⟨B, k * 10 + 7, none⟩ = some (.int .i64 (G k).parent) := h.cell (j := 7) hk (by omega)
theorem Rf.c8 (h : Rf w t B G) (k : Nat) (hk : k ≤ 200) : w.cell? ⟨B, k * 10 + 8, none⟩ = some (.string (G k).data) := h.cell (j := 8) hk (by omega)
theorem Rf.c9 (h : Rf w t B G) (k : Nat) (hk : k ≤ 200) : w.cell? ⟨B, k * 10 + 9, none⟩ = some (G k).sl := h.cell (j := 9) hk (by omega)
theorem Rf.frozen (h : Rf w t B G) (i : Nat) : w.frozen? ⟨B, i, none⟩ = false := frozen_of h.row i
theorem EntAt.same {n : RN} (h : EntAt w n) (hs : ∀ (g : Nat) (C : Array Value) (f : Nat × Nat), w.heap[g]? = some (Obj.cells C 148 f) → w'.heap[g]? = w.heap[g]?) : EntAt w' n := by
 obtain ⟨h1, h2⟩ := h
 refine ⟨h1, ?_⟩
 rcases h2 with h2 | ⟨g, cap, cur, e1, e2, e3, e4⟩
 · exact .inl h2
 · exact .inr ⟨g, cap, cur, e1, e2, (hs g _ _ e3).trans e3, e4⟩
theorem Rf.same (h : Rf w t B G) (hs : ∀ b, b < w.heap.size → w'.heap[b]? = w.heap[b]?) : Rf w' t B G :=
 ⟨(hs t h.ltT).trans h.tree, (hs B h.ltB).trans h.row, fun k hk => (h.ents k hk).same fun g _ _ hg => hs g (lt_of_heap hg)⟩
theorem Rf.below (h : Rf w t B G) (hb : Below w.heap.size w w') : Rf w' t B G := h.same hb.block
theorem Rf.set (h : Rf w t B G) {k j : Nat} (hk : k ≤ 200) (hj : j < 10) (v : Value) (n : RN) (hn : n.cells = (G k).cells.set j v) (he : EntAt w n) : Rf (w.setCell ⟨B, k * 10 + j, none⟩ v) t B (updG G k n) := by
 have hne : ∀ (g : Nat) (C : Array Value) (f : Nat × Nat), w.heap[g]? = some (Obj.cells C 148 f) → (w.setCell ⟨B, k * 10 + j, none⟩ v).heap[g]? = w.heap[g]? := fun g C f hg => Below.heap_setCell _ _ _ _ (fun e => by
  subst e
  have := hg.symm.trans h.row
  simp at this)
 refine ⟨(Below.heap_setCell _ _ _ _ h.ne).trans h.tree, ?_, fun i hi => ?_⟩
 · rw [heap_setCell_same h.row, rowA_set G hk hj v n hn]
 · by_cases e : i = k
   · subst e; rw [updG_same]; exact he.same hne
   · rw [updG_other _ _ e]; exact (h.ents i hi).same hne
end Go.Proofs.YtafonmnfeibaiaaGreat.RF
namespace Go.Proofs.YtafonmnfeibaiaaGreat.RF
open Go.RowKit
structure Kept (n : RN) (m : IT.Nd) : Prop where
 is : n.is = true
 kind : n.kind = m.kind
 mode : n.mode = m.mode
 owner : n.owner = m.owner
 group : n.group = m.group
 tty : n.tty = m.tty
 holds : n.holds = (m.holds : Int)
 parent : m.kind = 1 → n.parent = (m.parent : Int)
 data : bs n.data = m.data
 names : (ents n.ents).Perm m.names
structure Tie (G : Gt) (T : IT.Tr) : Prop where
 nok : ∀ k, k ≤ 200 → T k = none → (G k).is = false ∧ (G k).ents = []
 sok : ∀ k m, T k = some m → Kept (G k) m
structure Trf (w : World) (t B : Nat) (G : Gt) (T : IT.Tr) : Prop where
 rep : Rf w t B G
 ties : Tie G T
 snd : IT.Sound okN T
def Stf (w : World) (t B : Nat) (R : IT.Tr → Prop) (w' : World) : Prop := ∃ G' T', Mo B w w' ∧ Rf w' t B G' ∧ Tie G' T' ∧ R T'
theorem Stf.keep {w w' : World} {t B : Nat} {G : Gt} {T : IT.Tr} (h : Trf w t B G T) (hb : Below w.heap.size w w') {R : IT.Tr → Prop} (hR : R T) : Stf w t B R w' := ⟨G, T, Mo.of hb, h.rep.below hb, h.ties, hR⟩
def isB (G : Gt) (ki : Int) : Bool := decide (1 ≤ ki) && (decide (ki ≤ 200) && (G ki.toNat).is)
theorem Trf.isB {w : World} {t B : Nat} {G : Gt} {T : IT.Tr} (h : Trf w t B G T) (ki : Int) : isB G ki = (T ki.toNat).isSome := by
 unfold RF.isB
 cases hk : T ki.toNat with
 | some m =>
   have := (h.snd.1.rng _ m hk)
   rw [(h.ties.sok _ m hk).is, decide_eq_true (by omega), decide_eq_true (by omega)]; rfl
 | none =>
   by_cases h1 : 1 ≤ ki
   · by_cases h2 : ki ≤ 200
     · rw [(h.ties.nok _ (by omega) hk).1]; simp
     · rw [decide_eq_false h2]; simp
   · rw [decide_eq_false h1]; simp
theorem rf_is {w : World} {t B : Nat} {G : Gt} (h : Rf w t B G) (ki : Int) :
  Calls Tryz.prog 105 #[.pointer (some ⟨t, 0, none⟩), .int .i64 ki] w fun e w' => e = .returned (.bool (isB G ki)) ∧ w = w' := by
 by_cases h1 : 1 ≤ ki
 · by_cases h2 : ki ≤ 200
   · obtain ⟨k, rfl⟩ : ∃ k : Nat, ki = (k : Int) := ⟨ki.toNat, by omega⟩
     have c0 := h.cellT
     have b0 := h.c0 k (by omega)
     have e0 : isB G (k : Int) = (G k).is := by unfold isB; rw [decide_eq_true h1, decide_eq_true h2]; rfl
     rw [e0]
     clear h e0
     go_enter Tryz.func105, Tryz.ntmps105
     go_wp2
     go_ret
     exact ⟨rfl, rfl⟩
   · have e0 : isB G ki = false := by unfold isB; rw [decide_eq_false h2]; simp
     rw [e0]
     have h3 : 200 < ki := by omega
     clear h e0 h2
     go_enter Tryz.func105, Tryz.ntmps105
     go_wp2
     go_ret
     exact ⟨rfl, rfl⟩
 · have e0 : isB G ki = false := by unfold isB; rw [decide_eq_false h1]; simp
   rw [e0]
   have h3 : ki < 1 := by omega
   clear h e0 h1
   go_enter Tryz.func105, Tryz.ntmps105
   go_wp2
   go_ret
   exact ⟨rfl, rfl⟩
theorem rf_is_no {w : World} {t B : Nat} {G : Gt} {T : IT.Tr} (h : Trf w t B G T) (ki : Int) (hn : T ki.toNat = none) :
  Calls Tryz.prog 105 #[.pointer (some ⟨t, 0, none⟩), .int .i64 ki] w fun e w' => e = .returned (.bool false) ∧ w = w' := by
 have := rf_is h.rep ki
 rw [h.isB, hn] at this
 exact this
theorem rf_is_yes {w : World} {t B : Nat} {G : Gt} {T : IT.Tr} (h : Trf w t B G T) (ki : Int) {m : IT.Nd} (hm : T ki.toNat = some m) :
  Calls Tryz.prog 105 #[.pointer (some ⟨t, 0, none⟩), .int .i64 ki] w fun e w' => e = .returned (.bool true) ∧ w = w' := by
 have := rf_is h.rep ki
 rw [h.isB, hm] at this
 exact this
theorem Trf.nat {w : World} {t B : Nat} {G : Gt} {T : IT.Tr} (h : Trf w t B G T) {ki : Int} {m : IT.Nd} (hm : T ki.toNat = some m) : ∃ k : Nat, ki = (k : Int) ∧ 1 ≤ k ∧ k ≤ 200 ∧ T k = some m := by
 have := h.snd.1.rng _ m hm
 exact ⟨ki.toNat, by omega, this.1, this.2, hm⟩
def dirB (o : Option IT.Nd) : Bool := match o with
 | none => false
 | some m => m.kind == 1
theorem rf_dir {w : World} {t B : Nat} {G : Gt} {T : IT.Tr} (h : Trf w t B G T) (ki : Int) :
  Calls Tryz.prog 91 #[.pointer (some ⟨t, 0, none⟩), .int .i64 ki] w fun e w' => e = .returned (.bool (dirB (T ki.toNat))) ∧ w = w' := by
 cases hm : T ki.toNat with
 | none =>
   show Calls _ _ _ _ (fun e w' => e = .returned (.bool false) ∧ w = w')
   have HI := Hd (rf_is_no h ki hm)
   clear h hm
   go_enter Tryz.func91, Tryz.ntmps91
   go_wp2_with fail
   refine HI.out.mono ?_
   rintro e w' ⟨rfl, rfl⟩
   go_wp2
   go_ret
   exact ⟨rfl, rfl⟩
 | some m =>
   show Calls _ _ _ _ (fun e w' => e = .returned (.bool (m.kind == 1)) ∧ w = w')
   have HI := Hd (rf_is_yes h ki hm)
   obtain ⟨k, rfl, hk1, hk2, hk⟩ := h.nat hm
   have c0 := h.rep.cellT
   have b1 := h.rep.c1 k hk2
   rw [(h.ties.sok k m hk).kind] at b1
   clear h hm hk
   go_enter Tryz.func91, Tryz.ntmps91
   go_wp2_with fail
   refine HI.out.mono ?_
   rintro e w' ⟨rfl, rfl⟩
   go_wp2
   go_ret
   exact ⟨rfl, rfl⟩
def fileE (o : Option IT.Nd) : Int := match o with
 | none => 3
 | some m => if m.kind = 1 then 7 else if m.kind = 2 then 1 else 0
theorem rf_file {w : World} {t B : Nat} {G : Gt} {T : IT.Tr} (h : Trf w t B G T) (ki : Int) :
  Calls Tryz.prog 121 #[.pointer (some ⟨t, 0, none⟩), .int .i64 ki] w fun e w' => e = .returned (.int .i64 (fileE (T ki.toNat))) ∧ w = w' := by
 cases hm : T ki.toNat with
 | none =>
   have HI := Hd (rf_is_no h ki hm)
   clear h hm
   go_enter Tryz.func121, Tryz.ntmps121
   go_wp2_with fail
   refine HI.out.mono ?_
   rintro e w' ⟨rfl, rfl⟩
   go_wp2
   go_ret
   exact ⟨rfl, rfl⟩
 | some m =>
   have HI := Hd (rf_is_yes h ki hm)
   obtain ⟨k, rfl, hk1, hk2, hk⟩ := h.nat hm
   have c0 := h.rep.cellT
   have b1 := h.rep.c1 k hk2
   rw [(h.ties.sok k m hk).kind] at b1
   clear h hm hk
   show Calls _ _ _ _ (fun e w' => e = .returned (.int .i64 (if m.kind = 1 then 7 else if m.kind = 2 then 1 else 0)) ∧ w = w')
   by_cases k1 : m.kind = 1
   · rw [k1] at b1
     rw [if_pos k1]
     clear k1
     go_enter Tryz.func121, Tryz.ntmps121
     go_wp2_with fail
     refine HI.out.mono ?_
     rintro e w' ⟨rfl, rfl⟩
     go_wp2
     go_ret
     exact ⟨rfl, rfl⟩
   · rw [if_neg k1]
     have z1 : (m.kind == 1) = false := by simpa using k1
     by_cases k2 : m.kind = 2
     · rw [k2] at b1 z1
       rw [if_pos k2]
       clear k1 k2
       go_enter Tryz.func121, Tryz.ntmps121
       go_wp2_with fail
       refine HI.out.mono ?_
       rintro e w' ⟨rfl, rfl⟩
       go_wp2
       go_ret
       exact ⟨rfl, rfl⟩
     · rw [if_neg k2]
       have z2 : (m.kind == 2) = false := by simpa using k2
       clear k1 k2
       go_enter Tryz.func121, Tryz.ntmps121
       go_wp2_with fail
       refine HI.out.mono ?_
       rintro e w' ⟨rfl, rfl⟩
       go_wp2
       go_ret
       exact ⟨rfl, rfl⟩
theorem EntAt.lit {w : World} {n : RN} (h : EntAt w n) : ∃ a cap, n.sl = .slice a n.ents.length cap ∧ n.ents.length ≤ cap ∧ cap ≤ maxLen ∧ ∀ (j : Nat) (p : ByteArray × Nat), n.ents[j]? = some p → ∃ g : Nat, a = some ⟨g, 0, none⟩ ∧ w.cell? ⟨g, j * 2, none⟩ = some (.string p.1) ∧ w.cell? ⟨g, j * 2 + 1, none⟩ = some (.int .i64 (p.2 : Int)) := by
 obtain ⟨h1, h2⟩ := h
 rcases h2 with ⟨e1, e2⟩ | ⟨g, cap, cur, e1, e2, e3, e4, e5, e6, e7⟩
 · refine ⟨none, 0, by rw [e1, e2], by omega, by decide, fun j p hp => ?_⟩
   have := (List.getElem?_eq_some_iff.1 hp).1
   omega
 · refine ⟨_, cap, e1, e4, e5, fun j p hp => ⟨g, rfl, ?_⟩⟩
   have hj := (List.getElem?_eq_some_iff.1 hp).1
   obtain ⟨f1, f2⟩ := flatE_get _ _ _ hp
   rw [cell_of e3, cell_of e3]
   rw [← e7] at f1 f2
   rw [List.getElem?_take_of_lt (by omega)] at f1 f2
   rw [Nat.mul_comm 2 j] at f1 f2
   exact ⟨by simpa using f1, by simpa using f2⟩
theorem txt_ne {a b : ByteArray} (h : a ≠ b) : (a.toList == b.toList) = false := by
 rw [beq_eq_false_iff_ne]
 intro e
 rw [ByteArray.toList_eq, ByteArray.toList_eq] at e
 exact h (bs_inj e)
theorem rf_at_none {w : World} {t B : Nat} {G : Gt} (h : Rf w t B G) (k : Nat) (hk : k ≤ 200) (nm : ByteArray) (hn : ∀ p ∈ (G k).ents, p.1 ≠ nm) :
  Calls Tryz.prog 119 #[.pointer (some ⟨t, 0, none⟩), .int .i64 (k : Int), .string nm] w fun e w' => e = .returned (.int .i64 (-1)) ∧ w = w' := by
 have c0 := h.cellT
 have b9 := h.c9 k hk
 obtain ⟨a, cap, hs, hl1, hl2, hl3⟩ := (h.ents k hk).lit
 rw [hs] at b9
 have hlen : (G k).ents.length ≤ 9223372036854775807 := by unfold maxLen at hl2; omega
 have HL := Hd hl3
 have HN := Hd hn
 clear hs hl1 hl2 hl3 hn h
 generalize (G k).ents = E at *
 go_enter Tryz.func119, Tryz.ntmps119
 go_wp2
 go_loopg [7] E.length (fun g i wr => ∃ j : Nat, j + g = E.length ∧ i = .int .i64 (j : Int) ∧ wr = w)
 case atStart => exact ⟨0, Nat.zero_add _, rfl, rfl⟩
 case round =>
  obtain ⟨j, hj, rfl, rfl⟩ := hrel
  by_cases hlt : j < E.length
  · obtain ⟨p, hp⟩ : ∃ p, E[j]? = some p := ⟨E[j], List.getElem?_eq_getElem hlt⟩
    obtain ⟨g, rfl, f1, _⟩ := HL.out j p hp
    have hne : (p.1.toList == nm.toList) = false := txt_ne (HN.out p (List.mem_of_getElem? hp))
    clear hp
    go_wp2
    go_roundg (gk - 1)
    case measure => omega
    case rel => exact ⟨j + 1, by omega, by go_num, rfl⟩
  · go_wp2
    go_ret
    exact ⟨rfl, rfl⟩
theorem rf_at_some {w : World} {t B : Nat} {G : Gt} (h : Rf w t B G) (k : Nat) (hk : k ≤ 200) (nm : ByteArray) {i : Nat} {x : Nat} (hi : (G k).ents[i]? = some (nm, x)) (hn : ∀ j p, j < i → (G k).ents[j]? = some p → p.1 ≠ nm) :
  Calls Tryz.prog 119 #[.pointer (some ⟨t, 0, none⟩), .int .i64 (k : Int), .string nm] w fun e w' => e = .returned (.int .i64 (i : Int)) ∧ w = w' := by
 have c0 := h.cellT
 have b9 := h.c9 k hk
 obtain ⟨a, cap, hs, hl1, hl2, hl3⟩ := (h.ents k hk).lit
 rw [hs] at b9
 have hlen : (G k).ents.length ≤ 9223372036854775807 := by unfold maxLen at hl2; omega
 have hil : i < (G k).ents.length := (List.getElem?_eq_some_iff.1 hi).1
 have HL := Hd hl3
 have HN := Hd hn
 have HI := Hd hi
 clear hs hl1 hl2 hl3 hn h hi
 generalize (G k).ents = E at *
 go_enter Tryz.func119, Tryz.ntmps119
 go_wp2
 go_loopg [7] i (fun g v wr => ∃ j : Nat, j + g = i ∧ v = .int .i64 (j : Int) ∧ wr = w)
 case atStart => exact ⟨0, Nat.zero_add _, rfl, rfl⟩
 case round =>
  obtain ⟨j, hj, rfl, rfl⟩ := hrel
  by_cases hlt : j < i
  · have hjl : j < E.length := by omega
    obtain ⟨p, hp⟩ : ∃ p, E[j]? = some p := ⟨E[j], List.getElem?_eq_getElem hjl⟩
    obtain ⟨g, rfl, f1, _⟩ := HL.out j p hp
    have hne : (p.1.toList == nm.toList) = false := txt_ne (HN.out j p hlt hp)
    clear hp
    go_wp2
    go_roundg (gk - 1)
    case measure => omega
    case rel => exact ⟨j + 1, by omega, by go_num, rfl⟩
  · obtain rfl : j = i := by omega
    obtain ⟨g, rfl, f1, _⟩ := HL.out j _ HI.out
    clear hlt hj
    go_wp2
    go_ret
    exact ⟨rfl, rfl⟩
def cntE (l : List (ByteArray × Nat)) (x : Nat) : Nat := (l.filter fun p => decide (p.2 = x)).length
theorem cntE_take {l : List (ByteArray × Nat)} {j : Nat} {p : ByteArray × Nat} (h : l[j]? = some p) (x : Nat) : cntE (l.take (j + 1)) x = cntE (l.take j) x + if p.2 = x then 1 else 0 := by
 obtain ⟨hj, e⟩ := List.getElem?_eq_some_iff.1 h
 unfold cntE
 rw [List.take_succ_eq_append_getElem hj, List.filter_append, List.length_append, e]
 by_cases hx : p.2 = x <;> simp [hx]
theorem cntE_le (l : List (ByteArray × Nat)) (x : Nat) : cntE l x ≤ l.length := List.length_filter_le _ _
def sumG (G : Gt) (x k : Nat) : Nat := ((List.range k).map fun i => if i = 0 then 0 else cntE (G i).ents x).sum
theorem sumG_one (G : Gt) (x : Nat) : sumG G x 1 = 0 := rfl
theorem sumG_succ (G : Gt) (x k : Nat) (hk : k ≠ 0) : sumG G x (k + 1) = sumG G x k + cntE (G k).ents x := by
 unfold sumG
 rw [List.range_succ, List.map_append, List.sum_append]
 simp [hk]
theorem sumG_lnk {G : Gt} {T : IT.Tr} (h0 : ∀ k n, T k = some n → 1 ≤ k ∧ k ≤ 200) (h : Tie G T) (x : Nat) : sumG G x 201 = IT.lnk T x := by
 unfold sumG IT.lnk
 refine IT.sum_eq _ fun k hk => ?_
 have hk2 : k ≤ 200 := by have := List.mem_range.1 hk; omega
 cases hT : T k with
 | none =>
   rw [(h.nok k hk2 hT).2]
   show (if k = 0 then 0 else 0) = 0
   split <;> rfl
 | some m =>
   have hk1 := (h0 k m hT).1
   rw [if_neg (by omega)]
   have hp := (h.sok k m hT).names
   show cntE (G k).ents x = (m.names.filter fun p => decide (p.2 = x)).length
   rw [← (hp.filter _).length_eq]
   unfold cntE ents
   rw [List.filter_map, List.length_map]
   rfl
theorem rf_sum {w : World} {t B : Nat} {G : Gt} (h : Rf w t B G) (x : Nat) (hs : ∀ k, k ≤ 200 → (G k).ents.length ≤ 40) :
  Calls Tryz.prog 107 #[.pointer (some ⟨t, 0, none⟩), .int .i64 (x : Int)] w fun e w' => e = .returned (.int .i64 (sumG G x 201 : Nat)) ∧ w = w' := by
 have c0 := h.cellT
 have H := Hd h
 have HS := Hd hs
 have hle : ∀ k, k ≤ 201 → sumG G x k ≤ 40 * k := fun k => by
  induction k with
  | zero => intro _; exact Nat.le_refl _
  | succ k ih =>
    intro hk
    by_cases hz : k = 0
    · subst hz; rw [sumG_one]; omega
    · rw [sumG_succ G x k hz]
      have := ih (by omega)
      have := cntE_le (G k).ents x
      have := hs k (by omega)
      omega
 have HLE := Hd hle
 clear h hs hle
 go_enter Tryz.func107, Tryz.ntmps107
 go_wp2
 go_loopg [5, 6] 200 (fun g n i wr => ∃ k m : Nat, 1 ≤ k ∧ k + g = 201 ∧ i = .int .i64 (k : Int) ∧ m = sumG G x k ∧ n = .int .i64 (m : Int) ∧ wr = w)
 case atStart => exact ⟨1, 0, by omega, by omega, rfl, (sumG_one G x).symm, rfl, rfl⟩
 case round =>
  obtain ⟨k, m, hk1, hk2, rfl, hm, rfl, rfl⟩ := hrel
  have HM := Hd hm
  have hmle : m ≤ 40 * 201 := by rw [hm]; have := HLE.out k (by omega); omega
  clear hm
  by_cases hlt : k ≤ 200
  · obtain ⟨og, rfl⟩ : ∃ og, gk = og + 1 := ⟨gk - 1, by omega⟩
    have b9 := H.out.c9 k hlt
    obtain ⟨a, cap, hs, hl1, hl2, hl3⟩ := (H.out.ents k hlt).lit
    have hen := HS.out k hlt
    rw [hs] at b9
    have HSC := Hd (sumG_succ G x k (by omega))
    generalize (G k).ents = E at *
    have HL := Hd hl3
    have HHH : Hid (m + cntE E x = sumG G x (k + 1)) := Hd (by rw [HSC.out, HM.out])
    clear hs hl1 hl2 hl3
    go_wp2
    go_loopg [5, 7] E.length (fun g2 n i wr2 => ∃ j m2 : Nat, j + g2 = E.length ∧ i = .int .i64 (j : Int) ∧ m2 = m + cntE (E.take j) x ∧ n = .int .i64 (m2 : Int) ∧ wr2 = wr)
    case atStart => exact ⟨0, m, Nat.zero_add _, rfl, rfl, rfl, rfl⟩
    case round =>
     obtain ⟨j, m2, hj, rfl, hm2, rfl, rfl⟩ := hrel
     have HM2 := Hd hm2
     have hm2le : m2 ≤ 40 * 201 + 40 := by have := cntE_le (E.take j) x; have : (E.take j).length ≤ E.length := by rw [List.length_take]; omega
                                           omega
     clear hm2
     by_cases hjl : j < E.length
     · obtain ⟨p, hp⟩ : ∃ p, E[j]? = some p := ⟨E[j], List.getElem?_eq_getElem hjl⟩
       obtain ⟨g, rfl, f1, f2⟩ := HL.out j p hp
       have HCT := Hd (cntE_take hp x)
       clear hp f1
       by_cases hx : p.2 = x
       · have HX := Hd hx
         have hxx : (p.2 == x) = true := by simpa using hx
         clear hx
         go_wp2
         go_roundg (gk - 1)
         case measure => omega
         case rel => exact ⟨j + 1, m2 + 1, by omega, by go_num, by rw [HCT.out, if_pos HX.out, HM2.out]; omega, by go_num, rfl⟩
       · have HX := Hd hx
         have hxx : (p.2 == x) = false := by simpa using hx
         clear hx
         go_wp2
         go_roundg (gk - 1)
         case measure => omega
         case rel => exact ⟨j + 1, m2, by omega, by go_num, by rw [HCT.out, if_neg HX.out, HM2.out]; rfl, rfl, rfl⟩
     · go_wp2
       go_roundg og
       case measure => omega
       case rel => exact ⟨k + 1, m2, by omega, by omega, by go_num, by rw [← HHH.out, HM2.out, List.take_of_length_le (by omega)], rfl, rfl⟩
  · obtain rfl : k = 201 := by omega
    go_wp2
    go_ret
    exact ⟨congrArg (fun z : Nat => Ending.returned (.int .i64 (z : Int))) HM.out, rfl⟩
def putA : Array Value → Nat → List Value → Array Value
 | C, _, [] => C
 | C, o, v :: r => putA (C.setIfInBounds o v) (o + 1) r
theorem heap_setCells {R : Nat} {T : TypeId} {f : Nat × Nat} : ∀ (vs : List Value) (o : Nat) (C : Array Value) (W : World), W.heap[R]? = some (.cells C T f) → (W.setCells R o vs).heap[R]? = some (.cells (putA C o vs) T f)
 | [], _, _, _, h => h
 | v :: r, o, C, W, h => heap_setCells r (o + 1) _ _ (heap_setCell_same h v)
theorem setCells_size {R : Nat} : ∀ (vs : List Value) (o : Nat) (W : World), (W.setCells R o vs).heap.size = W.heap.size
 | [], _, _ => rfl
 | v :: r, o, W => by rw [World.setCells, setCells_size r]; simp [World.setCell]
theorem below_setCells {R n : Nat} {w : World} (hn : n ≤ R) : ∀ (vs : List Value) (o : Nat) (W : World), Below n w W → Below n w (W.setCells R o vs)
 | [], _, _, h => h
 | v :: r, o, W, h => below_setCells hn r (o + 1) _ (h.setCell hn _)
theorem heap_setCells_other {R b : Nat} (hb : b ≠ R) : ∀ (vs : List Value) (o : Nat) (W : World), (W.setCells R o vs).heap[b]? = W.heap[b]?
 | [], _, _ => rfl
 | v :: r, o, W => by rw [World.setCells, heap_setCells_other hb r, Below.heap_setCell _ _ _ _ hb]
theorem setCells_os {R : Nat} : ∀ (vs : List Value) (o : Nat) (W : World), (W.setCells R o vs).os = W.os ∧ (W.setCells R o vs).tape = W.tape ∧ (W.setCells R o vs).output = W.output
 | [], _, _ => ⟨rfl, rfl, rfl⟩
 | v :: r, o, W => by
   obtain ⟨a, b, c⟩ := setCells_os r (o + 1) (W.setCell ⟨R, o, none⟩ v)
   exact ⟨a, b, c⟩
theorem putA_get : ∀ (vs : List Value) (o : Nat) (C : Array Value) (i : Nat), o + vs.length ≤ C.size → (putA C o vs)[i]? = if o ≤ i ∧ i < o + vs.length then vs[i - o]? else C[i]?
 | [], o, C, i, _ => by
   rw [if_neg (fun hh => by simp at hh; omega)]; rfl
 | v :: r, o, C, i, h => by
   have h' : o + 1 + r.length ≤ (C.setIfInBounds o v).size := by simp at h ⊢; omega
   rw [putA, putA_get r (o + 1) _ i h']
   simp only [List.length_cons] at h ⊢
   by_cases e : o + 1 ≤ i ∧ i < o + 1 + r.length
   · rw [if_pos e, if_pos (by omega), show i - o = i - (o + 1) + 1 by omega, List.getElem?_cons_succ]
   · rw [if_neg e, Array.getElem?_setIfInBounds]
     by_cases e2 : o = i
     · subst e2
       rw [if_pos rfl, if_pos (by omega), if_pos (by omega), Nat.sub_self]; rfl
     · rw [if_neg e2, if_neg (by omega)]
theorem rowA_put (G : Gt) {k : Nat} (hk : k ≤ 200) (n : RN) : putA (rowA G) (k * 10) n.cells = rowA (updG G k n) := by
 apply Array.ext_getElem?
 intro i
 rw [putA_get _ _ _ _ (by rw [rowA_size, cells_len]; omega), cells_len]
 by_cases hi : i < 2010
 · rw [rowA_get _ i hi]
   by_cases e : i / 10 = k
   · subst e
     rw [if_pos (by omega), rowA_get _ i hi, updG_same, show i - i / 10 * 10 = i % 10 by omega]
   · rw [if_neg (by omega), rowA_get _ i hi, updG_other _ _ e]
 · rw [if_neg (by omega), Array.getElem?_eq_none (by rw [rowA_size]; omega), Array.getElem?_eq_none (by rw [rowA_size]; omega)]
theorem Rf.setAll {w : World} {t B : Nat} {G : Gt} (h : Rf w t B G) {k : Nat} (hk : k ≤ 200) (n : RN) (he : EntAt w n) : Rf (w.setCells B (k * 10) n.cells) t B (updG G k n) := by
 have hot : ∀ b, b ≠ B → (w.setCells B (k * 10) n.cells).heap[b]? = w.heap[b]? := fun b hb => heap_setCells_other hb _ _ _
 have hne : ∀ (g : Nat) (C : Array Value) (f : Nat × Nat), w.heap[g]? = some (Obj.cells C 148 f) → (w.setCells B (k * 10) n.cells).heap[g]? = w.heap[g]? := fun g C f hg => hot g (fun e => by
  subst e
  have := hg.symm.trans h.row
  simp at this)
 refine ⟨(hot t h.ne).trans h.tree, ?_, fun i hi => ?_⟩
 · rw [heap_setCells _ _ _ _ h.row, rowA_put G hk]
 · by_cases e : i = k
   · subst e; rw [updG_same]; exact he.same hne
   · rw [updG_other _ _ e]; exact (h.ents i hi).same hne
theorem Rf.there {w : World} {t B : Nat} {G : Gt} (h : Rf w t B G) {k : Nat} (hk : k ≤ 200) : w.there B (k * 10) 10 := fun j hj => by
 rw [h.cell hk hj, List.getElem?_eq_getElem (by rw [cells_len]; exact hj)]
 exact ⟨rfl, h.frozen _⟩
theorem EntAt.nil (w : World) (n : RN) (h1 : n.sl = .slice none 0 0) (h2 : n.ents = []) : EntAt w n := by
 unfold EntAt
 rw [h1, h2]
 exact ⟨rfl, .inl ⟨rfl, rfl⟩⟩
theorem Mo.setCells {b : Nat} {a w : World} (h : Mo b a w) (o : Nat) (vs : List Value) : Mo b a (w.setCells b o vs) where
 os := (setCells_os vs o w).1.trans h.os
 tape := (setCells_os vs o w).2.1.trans h.tape
 output := (setCells_os vs o w).2.2.trans h.output
 size := by rw [setCells_size]; exact h.size
 block := fun k hk hb => (heap_setCells_other hb _ _ _).trans (h.block k hk hb)
def WithinP (T : IT.Tr) (x d : Nat) (w : World) (e : Ending) (w' : World) : Prop := ∃ b : Bool, e = .returned (.bool b) ∧ (b = true ↔ IT.Bel T x d) ∧ w = w'
theorem rf_within {w : World} {t B : Nat} {G : Gt} {T : IT.Tr} (h : Trf w t B G T) (d x : Nat) {n : IT.Nd} (hd : T d = some n) (hdk : n.kind = 1) :
  Calls Tryz.prog 124 #[.pointer (some ⟨t, 0, none⟩), .int .i64 (d : Int), .int .i64 (x : Int)] w (WithinP T x d w) := by
 obtain ⟨rk, hr1, hr2⟩ := h.snd.1.rank
 have c0 := h.rep.cellT
 have H := Hd h
 have HR2 := Hd hr2
 have HR1 := Hd (hr1 d n hd)
 have HD := Hd hd
 have HK := Hd hdk
 clear h hr1 hr2 hd hdk
 go_enter Tryz.func124, Tryz.ntmps124
 go_wp2
 go_loopg [1, 7] 201 (fun g dv iv wr => ∃ (k kd : Nat), k + g = 201 ∧ dv = .int .i64 (kd : Int) ∧ iv = .int .i64 (k : Int) ∧ wr = w ∧ Hid (∃ m, T kd = some m ∧ m.kind = 1 ∧ (IT.Bel T x d ↔ IT.Bel T x kd) ∧ (rk kd + k ≤ rk d ∨ (m.parent = kd ∧ kd ≠ x))))
 case atStart => exact ⟨0, d, by omega, rfl, rfl, rfl, Hd ⟨n, HD.out, HK.out, Iff.rfl, .inl (Nat.le_refl _)⟩⟩
 case round =>
  obtain ⟨k, kd, hkg, rfl, rfl, rfl, HH⟩ := hrel
  by_cases hlt : k ≤ 200
  · obtain ⟨og, rfl⟩ : ∃ og, gk = og + 1 := ⟨gk - 1, by omega⟩
    by_cases hx : kd = x
    · subst hx
      go_wp2
      go_ret
      obtain ⟨m, h1, h2, h3, h4⟩ := HH.out
      exact ⟨true, rfl, ⟨fun _ => h3.2 .self, fun _ => rfl⟩, rfl⟩
    · have hxx : (kd == x) = false := by simpa using hx
      have HX := Hd hx
      clear hx
      by_cases h1 : kd = 1
      · subst h1
        go_wp2
        go_ret
        obtain ⟨m, h1, h2, h3, h4⟩ := HH.out
        refine ⟨false, rfl, ⟨(fun hh => by cases hh), fun hh => ?_⟩, rfl⟩
        obtain ⟨r, e1, e2, e3⟩ := H.out.snd.1.root
        exact absurd (h3.1 hh) (IT.bel_top e1 HX.out e3)
      · have h11 : (kd == 1) = false := by simpa using h1
        have HKD := Hd h1
        clear h1
        obtain ⟨m, e1, e2, e3, e4⟩ := HH.out
        have hkd := (H.out.snd.1.rng kd m e1).2
        have b7 := H.out.rep.c7 kd hkd
        rw [(H.out.ties.sok kd m e1).parent e2] at b7
        have HM : Hid (∃ m', T m.parent = some m' ∧ m'.kind = 1 ∧ (IT.Bel T x d ↔ IT.Bel T x m.parent) ∧ (rk m.parent + (k + 1) ≤ rk d ∨ (m'.parent = m.parent ∧ m.parent ≠ x))) := Hd (by
         by_cases hp : m.parent = kd
         · rw [hp]
           refine ⟨m, e1, e2, e3, .inr ⟨hp, HX.out⟩⟩
         · obtain ⟨g1, m', g2, g3⟩ := HR2.out kd m e1 e2 hp
           refine ⟨m', g2, g3, e3.trans (IT.bel_step e1 e2 HX.out hp), ?_⟩
           rcases e4 with e4 | e4
           · exact .inl (by omega)
           · exact absurd e4.1 hp)
        clear e1 e2 e3 e4
        generalize m.parent = pa at *
        go_wp2
        go_roundg og
        case measure => omega
        case rel => exact ⟨k + 1, pa, by omega, rfl, by go_num, rfl, HM⟩
  · have h3 : 200 < k := by omega
    clear hlt
    go_wp2
    go_ret
    obtain ⟨m, e1, e2, e3, e4⟩ := HH.out
    refine ⟨false, rfl, ⟨(fun hh => by cases hh), fun hh => ?_⟩, rfl⟩
    have := HR1.out
    rcases e4 with e4 | e4
    · omega
    · exact absurd (e3.1 hh) (IT.bel_top e1 e4.2 e4.1)
def aloneL (T : IT.Tr) (l : List (ByteArray × Nat)) : IT.Tr := fun k => if l.any (fun p => decide (p.2 = k)) = true then (T k).map (IT.alone k) else T k
theorem aloneL_snoc (T : IT.Tr) (l : List (ByteArray × Nat)) (p : ByteArray × Nat) : aloneL T (l ++ [p]) = IT.upd (aloneL T l) p.2 ((aloneL T l p.2).map (IT.alone p.2)) := by
 funext k
 unfold aloneL IT.upd
 by_cases e : k = p.2
 · subst e
   rw [if_pos rfl, if_pos (by simp)]
   by_cases h : l.any (fun q => decide (q.2 = p.2)) = true
   · rw [if_pos h]
     cases T p.2 with
     | none => rfl
     | some m => simp [IT.alone_alone]
   · rw [if_neg h]
 · rw [if_neg e]
   have : (l ++ [p]).any (fun q => decide (q.2 = k)) = l.any (fun q => decide (q.2 = k)) := by
    rw [List.any_append]; simp [Ne.symm e]
   rw [this]
theorem aloneL_some {T : IT.Tr} (l : List (ByteArray × Nat)) {k : Nat} {m : IT.Nd} (h : T k = some m) : ∃ m1, aloneL T l k = some m1 ∧ m1.kind = m.kind := by
 unfold aloneL
 rw [h]
 split
 · exact ⟨_, rfl, IT.alone_kind _ _⟩
 · exact ⟨_, rfl, rfl⟩
theorem aloneL_rem {T : IT.Tr} {i : Nat} {m : IT.Nd} (hi : T i = some m) (l : List (ByteArray × Nat)) (hp : (ents l).Perm m.names) : IT.upd (aloneL T l) i none = IT.rem T i := by
 funext k
 unfold IT.upd IT.rem
 by_cases e : k = i
 · rw [if_pos e, if_pos e]
 · rw [if_neg e, if_neg e]
   unfold aloneL
   have key : IT.leadO k (T i) = 0 ↔ ¬ l.any (fun p => decide (p.2 = k)) = true := by
    rw [hi]
    show IT.lead k m = 0 ↔ _
    unfold IT.lead
    rw [← (hp.filter _).length_eq, List.length_eq_zero_iff, List.filter_eq_nil_iff, List.any_eq_true]
    unfold ents
    constructor
    · rintro h ⟨p, hp1, hp2⟩
      exact h (bs p.1, p.2) (List.mem_map_of_mem (f := fun p : ByteArray × Nat => (bs p.1, p.2)) hp1) hp2
    · rintro h q hq hh
      obtain ⟨p, hp1, rfl⟩ := List.mem_map.1 hq
      exact h ⟨p, hp1, hh⟩
   by_cases h : l.any (fun p => decide (p.2 = k)) = true
   · rw [if_pos h, if_neg (fun hh => key.1 hh h)]
   · rw [if_neg h, if_pos (key.2 h)]
theorem Tie.par {G : Gt} {T : IT.Tr} (h : Tie G T) {k : Nat} {m : IT.Nd} (hk : T k = some m) (hm : m.kind = 1) (p : Nat) : Tie (updG G k { G k with parent := (p : Int) }) (IT.upd T k (some { m with parent := p })) where
 nok := fun j hj hn => by
  unfold IT.upd at hn
  by_cases e : j = k
  · rw [if_pos e] at hn; cases hn
  · rw [if_neg e] at hn; rw [updG_other _ _ e]; exact h.nok j hj hn
 sok := fun j q hq => by
  unfold IT.upd at hq
  by_cases e : j = k
  · subst e
    rw [if_pos rfl] at hq
    obtain rfl := Option.some.inj hq
    rw [updG_same]
    have hh := h.sok j m hk
    exact ⟨hh.is, hh.kind, hh.mode, hh.owner, hh.group, hh.tty, hh.holds, fun _ => rfl, hh.data, hh.names⟩
  · rw [if_neg e] at hq; rw [updG_other _ _ e]; exact h.sok j q hq
theorem Tie.gone {G : Gt} {T : IT.Tr} (h : Tie G T) (k : Nat) : Tie (updG G k noRN) (IT.upd T k none) where
 nok := fun j hj hn => by
  unfold IT.upd at hn
  by_cases e : j = k
  · subst e; rw [updG_same]; exact ⟨rfl, rfl⟩
  · rw [if_neg e] at hn; rw [updG_other _ _ e]; exact h.nok j hj hn
 sok := fun j q hq => by
  unfold IT.upd at hq
  by_cases e : j = k
  · rw [if_pos e] at hq; cases hq
  · rw [if_neg e] at hq; rw [updG_other _ _ e]; exact h.sok j q hq
theorem Tie.few {G : Gt} {T : IT.Tr} (h : Tie G T) (hs : IT.Sound0 okN T) (k : Nat) (hk : k ≤ 200) : (G k).ents.length ≤ 40 := by
 cases hT : T k with
 | none => rw [(h.nok k hk hT).2]; exact Nat.zero_le _
 | some m =>
   have := hs.few k m hT
   have e := (h.sok k m hT).names.length_eq
   unfold ents at e
   rw [List.length_map] at e
   omega
theorem Tie.lead {G : Gt} {T : IT.Tr} (h : Tie G T) (hs : IT.Sound0 okN T) {k : Nat} {m : IT.Nd} (hk : T k = some m) {p : ByteArray × Nat} (hp : p ∈ (G k).ents) : (bs p.1, p.2) ∈ m.names ∧ ∃ q, T p.2 = some q := by
 have hm : (bs p.1, p.2) ∈ m.names := (h.sok k m hk).names.mem_iff.1 (List.mem_map_of_mem (f := fun p : ByteArray × Nat => (bs p.1, p.2)) hp)
 exact ⟨hm, hs.lead k m _ hk hm⟩
structure Gn (w wr : World) (t B : Nat) (T : IT.Tr) (G : Gt) (A : IT.Tr) : Prop where
 rep : Rf wr t B G
 ties : Tie G A
 snd : IT.Sound0 okN A
 mo : Mo B w wr
 st : IT.Steps T A
theorem Gn.lnk {w wr : World} {t B : Nat} {T A : IT.Tr} {G : Gt} (h : Gn w wr t B T G A) (x : Nat) : sumG G x 201 = IT.lnk A x := by
 unfold sumG IT.lnk
 refine IT.sum_eq _ fun k hk => ?_
 have hk2 : k ≤ 200 := by have := List.mem_range.1 hk; omega
 cases hT : A k with
 | none =>
   rw [(h.ties.nok k hk2 hT).2]
   show (if k = 0 then 0 else 0) = 0
   split <;> rfl
 | some m =>
   have hk1 := (h.snd.rng k m hT).1
   rw [if_neg (by omega)]
   have hp := (h.ties.sok k m hT).names
   show cntE (G k).ents x = (m.names.filter fun p => decide (p.2 = x)).length
   rw [← (hp.filter _).length_eq]
   unfold cntE ents
   rw [List.filter_map, List.length_map]
   rfl
def zeroI : List Value := [.bool false, .int .i64 0, .int .i64 0, .int .i64 0, .int .i64 0, .int .i64 0, .int .i64 0, .int .i64 0, .string ⟨#[]⟩, .slice none 0 0]
theorem gone_zero {W : World} {t B : Nat} {G : Gt} (h : Rf W t B G) (k : Nat) (hk : k ≤ 200) : Rf (W.setCells B (k * 10) zeroI) t B (updG G k noRN) := h.setAll hk noRN (EntAt.nil _ _ rfl rfl)
structure Gl (w wr : World) (t B k : Nat) (G : Gt) (A : IT.Tr) (E : List (ByteArray × Nat)) (j : Nat) : Prop where
 rep : Rf wr t B G
 ties : Tie G (aloneL A (E.take j))
 mo : Mo B w wr
 ents : (G k).ents = E
theorem Gl.start {w wr : World} {t B k : Nat} {T A : IT.Tr} {G : Gt} (h : Gn w wr t B T G A) : Gl w wr t B k G A (G k).ents 0 := ⟨h.rep, h.ties, h.mo, rfl⟩
theorem Gl.skip {w wr : World} {t B k j : Nat} {A : IT.Tr} {G : Gt} {E : List (ByteArray × Nat)} (h : Gl w wr t B k G A E j) {p : ByteArray × Nat} (hp : E[j]? = some p) {m : IT.Nd} (hm : aloneL A (E.take j) p.2 = some m) (hk : m.kind ≠ 1) : Gl w wr t B k G A E (j + 1) := by
 obtain ⟨hj, e⟩ := List.getElem?_eq_some_iff.1 hp
 refine ⟨h.rep, ?_, h.mo, h.ents⟩
 rw [List.take_succ_eq_append_getElem hj, e, aloneL_snoc, hm]
 have : IT.alone p.2 m = m := by unfold IT.alone; rw [if_neg hk]
 rw [Option.map_some, this, ← hm, IT.upd_self]
 exact h.ties
theorem Gl.par {w wr : World} {t B k j : Nat} {A : IT.Tr} {G : Gt} {E : List (ByteArray × Nat)} (h : Gl w wr t B k G A E j) {p : ByteArray × Nat} (hp : E[j]? = some p) {m : IT.Nd} (hm : aloneL A (E.take j) p.2 = some m) (hk : m.kind = 1) (hx : p.2 ≤ 200) (hne : p.2 ≠ k) : Gl w (wr.setCell ⟨B, p.2 * 10 + 7, none⟩ (.int .i64 (p.2 : Int))) t B k (updG G p.2 { G p.2 with parent := (p.2 : Int) }) A E (j + 1) := by
 obtain ⟨hj, e⟩ := List.getElem?_eq_some_iff.1 hp
 refine ⟨h.rep.set hx (by omega) _ _ rfl (h.rep.ents _ hx), ?_, h.mo.set _, ?_⟩
 · rw [List.take_succ_eq_append_getElem hj, e, aloneL_snoc, hm]
   have : IT.alone p.2 m = { m with parent := p.2 } := by unfold IT.alone; rw [if_pos hk]
   rw [Option.map_some, this]
   exact h.ties.par hm hk p.2
 · rw [updG_other _ _ (Ne.symm hne)]; exact h.ents
theorem Gl.rem {w wr : World} {t B k : Nat} {T A : IT.Tr} {G : Gt} {E : List (ByteArray × Nat)} (h : Gl w wr t B k G A E E.length) (hA : IT.Sound0 okN A) (hst : IT.Steps T A) (hc : IT.can A k) {m : IT.Nd} (hm : A k = some m) (hp : (Go.Proofs.YtafonmnfeibaiaaGreat.ents E).Perm m.names) : Gn w (wr.setCells B (k * 10) zeroI) t B T (updG G k noRN) (IT.rem A k) where
 rep := gone_zero h.rep k hc.2.1
 ties := by
  rw [← aloneL_rem hm E hp, ← List.take_length (l := E)]
  exact h.ties.gone k
 snd := hA.rem hc
 mo := h.mo.setCells _ _
 st := hst.trans (.step hc .refl)
def Fl (A A2 : IT.Tr) (k : Nat) (f : Bool) : Prop := if f = true then IT.cnt A2 < IT.cnt A else A2 = A ∧ ∀ j, j < k → ¬ IT.can A j
theorem Fl.keep {A A2 : IT.Tr} {k : Nat} {f : Bool} (h : Fl A A2 k f) (hk : ¬ IT.can A2 k) : Fl A A2 (k + 1) f := by
 unfold Fl at h ⊢
 cases f with
 | true => exact h
 | false =>
   rw [if_neg (by decide)] at h ⊢
   obtain ⟨rfl, h2⟩ := h
   exact ⟨rfl, fun j hj => by
    by_cases e : j = k
    · subst e; exact hk
    · exact h2 j (by omega)⟩
theorem Fl.rem {A A2 : IT.Tr} {k : Nat} {f : Bool} (h : Fl A A2 k f) (hk : IT.can A2 k) : Fl A (IT.rem A2 k) (k + 1) true := by
 have h1 := IT.cnt_rem (S := A2) (i := k) hk.2.1 (by obtain ⟨n, hn, _⟩ := hk.2.2.1; rw [hn]; intro e; cases e)
 unfold Fl at h ⊢
 rw [if_pos rfl]
 cases f with
 | true => rw [if_pos rfl] at h; omega
 | false => rw [if_neg (by decide)] at h; obtain ⟨rfl, _⟩ := h; exact h1
theorem rf_gone {w : World} {t B : Nat} {G : Gt} {T : IT.Tr} (h : Rf w t B G) (ht : Tie G T) (hs : IT.Sound0 okN T) :
  Calls Tryz.prog 106 #[.pointer (some ⟨t, 0, none⟩)] w fun e w' => e = .returned (.tuple #[]) ∧ Stf w t B (fun T' => IT.NF T T') w' := by
 have HH := Hd (show Gn w w t B T G T from ⟨h, ht, hs, Mo.refl _ _, .refl⟩)
 clear h ht hs
 go_enter Tryz.func106, Tryz.ntmps106
 go_wp2
 go_loopg [2] (IT.cnt T + 1) (fun g mv wr => ∃ (f : Bool) (G : Gt) (A : IT.Tr), mv = .bool f ∧ Hid (Gn w wr t B T G A) ∧ Hid (if f = true then g = IT.cnt A + 1 else ∀ i, ¬ IT.can A i))
 case atStart => exact ⟨true, G, T, rfl, HH, Hd (by rw [if_pos rfl])⟩
 case round =>
  obtain ⟨f, G1, A, rfl, HG, HF⟩ := hrel
  cases f with
  | false =>
    go_wp2
    refine bodyPost_end (results_none rfl _ _ _) rfl ⟨rfl, G1, A, HG.out.mo, HG.out.rep, HG.out.ties, ?_⟩
    have := HF.out
    rw [if_neg (by decide)] at this
    exact HG.out.st.nf this
  | true =>
    have HK : Hid (gk = IT.cnt A + 1) := Hd (by have := HF.out; rw [if_pos rfl] at this; exact this)
    clear HF
    have ct := HG.out.rep.cellT
    have HFL : Hid (Fl A A 2 false) := Hd (by
     unfold Fl
     rw [if_neg (by decide)]
     refine ⟨rfl, fun j hj hc => ?_⟩
     obtain ⟨n, hn, _⟩ := hc.2.2.1
     have := HG.out.snd.rng j n hn
     have := hc.1
     omega)
    go_wp2
    clear ct
    obtain ⟨og, hog⟩ : ∃ og, gk = og + 1 := ⟨IT.cnt A, HK.out⟩
    have HOG : Hid (og = IT.cnt A) := Hd (by have := HK.out; omega)
    subst hog
    go_loopg [2, 3] 199 (fun g2 mv iv wr2 => ∃ (k : Nat) (f : Bool) (G2 : Gt) (A2 : IT.Tr), 2 ≤ k ∧ k + g2 = 201 ∧ iv = .int .i64 (k : Int) ∧ mv = .bool f ∧ Hid (Gn w wr2 t B T G2 A2) ∧ Hid (Fl A A2 k f))
    case atStart => exact ⟨2, false, G1, A, by omega, by omega, rfl, rfl, HG, HFL⟩
    case round =>
     obtain ⟨k, f, G2, A2, hk2, hkg, rfl, rfl, HG2, HF2⟩ := hrel
     have ct := HG2.out.rep.cellT
     by_cases hlt : k ≤ 200
     · obtain ⟨ig, rfl⟩ : ∃ ig, gk = ig + 1 := ⟨gk - 1, by omega⟩
       have b0 := HG2.out.rep.c0 k hlt
       cases hA : A2 k with
       | none =>
         rw [(HG2.out.ties.nok k hlt hA).1] at b0
         have HF3 := Hd (HF2.out.keep (k := k) (fun hc => by obtain ⟨n, hn, _⟩ := hc.2.2.1; rw [hA] at hn; cases hn))
         clear hA
         go_wp2
         go_roundg ig
         case measure => omega
         case rel => exact ⟨k + 1, f, G2, A2, by omega, by omega, by go_num, rfl, HG2, HF3⟩
       | some m =>
         have hkp := HG2.out.ties.sok k m hA
         rw [hkp.is] at b0
         have b6 := HG2.out.rep.c6 k hlt
         rw [hkp.holds] at b6
         by_cases hh : m.holds = 0
         · rw [hh] at b6
           have hS := HG2.out.lnk k
           have hfew : ∀ j, j ≤ 200 → (G2 j).ents.length ≤ 40 := HG2.out.ties.few HG2.out.snd
           by_cases hl : IT.lnk A2 k = 0
           · have HCAN : Hid (IT.can A2 k) := Hd ⟨by omega, hlt, ⟨m, hA, hh⟩, hl⟩
             have HCL : Hid (Calls Tryz.prog 107 #[.pointer (some ⟨t, 0, none⟩), .int .i64 (k : Int)] wr fun e w' => e = .returned (.int .i64 0) ∧ wr = w') := Hd (by
              have := rf_sum HG2.out.rep k hfew
              rw [hS, hl] at this
              exact this)
             have HA := Hd hA
             have HP := Hd hkp.names
             clear hA hkp hS hfew hl hh
             go_wp2_with fail
             refine HCL.out.mono ?_
             rintro e w5 ⟨rfl, rfl⟩
             have HL0 := Hd (Gl.start HG2.out (k := k))
             have hE : ∃ E, E = (G2 k).ents := ⟨_, rfl⟩
             obtain ⟨E, hE⟩ := hE
             rw [← hE] at HL0 HP
             have HLEN : Hid (E.length ≤ 40) := Hd (by rw [hE]; exact HG2.out.ties.few HG2.out.snd k hlt)
             have hlen := HLEN.out
             clear hE b0 b6
             go_wp2
             go_loopg [4, 5] E.length (fun g3 jv xv wr3 => ∃ (j : Nat) (G3 : Gt), j + g3 = E.length ∧ jv = .int .i64 (j : Int) ∧ Hid (Gl w wr3 t B k G3 A2 E j))
             case atStart => exact ⟨0, G2, by omega, rfl, HL0⟩
             case round =>
              obtain ⟨j, G3, hj, rfl, HL3⟩ := hrel
              have ct := HL3.out.rep.cellT
              have b9 := HL3.out.rep.c9 k hlt
              have hents := HL3.out.rep.ents k hlt
              obtain ⟨a, cap, hs, hl1, hl2, hl3⟩ := hents.lit
              rw [HL3.out.ents] at hs hl1 hl3
              rw [hs] at b9
              have HLL := Hd hl3
              clear hents hs hl1 hl2 hl3
              by_cases hjl : j < E.length
              · obtain ⟨jg, rfl⟩ : ∃ jg, gk = jg + 1 := ⟨gk - 1, by omega⟩
                obtain ⟨p, hp⟩ : ∃ p, E[j]? = some p := ⟨E[j], List.getElem?_eq_getElem hjl⟩
                obtain ⟨g, rfl, f1, f2⟩ := HLL.out j p hp
                have hmem : (bs p.1, p.2) ∈ m.names := HP.out.mem_iff.1 (List.mem_map_of_mem (f := fun p : ByteArray × Nat => (bs p.1, p.2)) (List.mem_of_getElem? hp))
                obtain ⟨q0, hq0⟩ := HG2.out.snd.lead k m _ HA.out hmem
                have hx2 : p.2 ≤ 200 := (HG2.out.snd.rng _ q0 hq0).2
                have hne : p.2 ≠ k := fun e => by
                 have h0 := IT.none_lead HCAN.out.2.2.2 hlt
                 rw [HA.out] at h0
                 exact IT.mem_lead hmem e h0
                obtain ⟨q1, hq1, hqk⟩ := aloneL_some (E.take j) hq0
                have b1 := HL3.out.rep.c1 p.2 hx2
                have hkp := (HL3.out.ties.sok p.2 q1 hq1).kind
                rw [hkp] at b1
                have HPP := Hd hp
                have HQ1 := Hd hq1
                have HNE := Hd hne
                clear hp hmem hq0 hne hqk hkp hq1 f1
                by_cases hk1 : q1.kind = 1
                · have HN := Hd (HL3.out.par HPP.out HQ1.out hk1 hx2 HNE.out)
                  rw [hk1] at b1
                  have b7 := HL3.out.rep.c7 p.2 hx2
                  have s7 := HL3.out.rep.frozen (p.2 * 10 + 7)
                  clear hk1
                  go_wp2
                  go_roundg jg
                  case measure => omega
                  case rel => exact ⟨j + 1, _, by omega, by go_num, HN⟩
                · have HN := Hd (HL3.out.skip HPP.out HQ1.out hk1)
                  have hz : (q1.kind == 1) = false := by simpa using hk1
                  clear hk1
                  go_wp2
                  go_roundg jg
                  case measure => omega
                  case rel => exact ⟨j + 1, _, by omega, by go_num, HN⟩
              · obtain rfl : j = E.length := by omega
                have HR := HL3.out.rem HG2.out.snd HG2.out.st HCAN.out HA.out HP.out
                have hT : wr.there B (k * 10) zeroI.toArray.size := HL3.out.rep.there hlt
                have hI : (Tryz.prog.info? 112).map (·.size) = some zeroI.toArray.size := rfl
                have h1C : zeroI.toArray.all (·.oneCell') = true := by simp [zeroI, Value.oneCell']
                have HF4 := Hd (HF2.out.rem HCAN.out)
                go_wp2_with (refine wpList_store_mid rfl 112 _ _ rfl B (k * 10) zeroI.toArray rfl rfl hT hI h1C ?_; generalize World.setCells wr B (k * 10) zeroI.toArray.toList = W5 at HR ⊢; have HR5 := Hd HR; clear HR hT hI h1C)
                go_roundg ig
                case measure => omega
                case rel => exact ⟨k + 1, true, _, _, by omega, by omega, by go_num, rfl, HR5, HF4⟩
           · have hz : (((IT.lnk A2 k : Nat) : Int) == 0) = false := by simpa using hl
             have HCL : Hid (Calls Tryz.prog 107 #[.pointer (some ⟨t, 0, none⟩), .int .i64 (k : Int)] wr fun e w' => e = .returned (.int .i64 (IT.lnk A2 k : Nat)) ∧ wr = w') := Hd (by
              have := rf_sum HG2.out.rep k hfew
              rw [hS] at this
              exact this)
             have HF3 := Hd (HF2.out.keep (k := k) (fun hc => hl hc.2.2.2))
             clear hA hkp hS hfew hl hh
             generalize IT.lnk A2 k = ln at *
             go_wp2_with fail
             refine HCL.out.mono ?_
             rintro e w5 ⟨rfl, rfl⟩
             go_wp2
             go_roundg ig
             case measure => omega
             case rel => exact ⟨k + 1, f, G2, A2, by omega, by omega, by go_num, rfl, HG2, HF3⟩
         · have hz : (((m.holds : Nat) : Int) == 0) = false := by simpa using hh
           have HF3 := Hd (HF2.out.keep (k := k) (fun hc => by
            obtain ⟨n, hn, h0⟩ := hc.2.2.1
            rw [hA] at hn
            obtain rfl := Option.some.inj hn
            exact hh h0))
           clear hA hkp hh
           go_wp2
           go_roundg ig
           case measure => omega
           case rel => exact ⟨k + 1, f, G2, A2, by omega, by omega, by go_num, rfl, HG2, HF3⟩
     · obtain rfl : k = 201 := by omega
       go_wp2
       have HX := HF2.out
       unfold Fl at HX
       cases f with
       | true =>
         rw [if_pos rfl] at HX
         go_roundg (IT.cnt A2 + 1)
         case measure => have := HOG.out; omega
         case rel => exact ⟨true, G2, A2, rfl, HG2, Hd (by rw [if_pos rfl])⟩
       | false =>
         rw [if_neg (by decide)] at HX
         go_roundg 0
         case measure => omega
         case rel => exact ⟨false, G2, A2, rfl, HG2, Hd (by
          rw [if_neg (by decide), HX.1]
          exact fun j hc => HX.2 j (by have := hc.2.1; omega) hc)⟩
end Go.Proofs.YtafonmnfeibaiaaGreat.RF
namespace Go.Proofs.YtafonmnfeibaiaaGreat.Md
open Go.RowKit
abbrev Bytes := List UInt8
abbrev big : Nat := 9223372036854775808
theorem and_nat {a b : Nat} (ha : a < big) (hb : b < big) : bits .and .i64 (a : Int) (b : Int) = ((a &&& b : Nat) : Int) :=
 (bits_nat .i64 63 (by decide) (fun n h0 h1 => by rw [IntKind.wrap_i64]; omega) a b (by simpa using ha) (by simpa using hb)).1
theorem andNot_nat {a b : Nat} (ha : a < big) (hb : b < big) : bits .andNot .i64 (a : Int) (b : Int) = ((a &&& (18446744073709551615 - b) : Nat) : Int) := by
 have h1 : (BitVec.ofInt 64 (a : Int)).toNat = a := by rw [BitVec.ofInt_natCast, BitVec.toNat_ofNat]; exact Nat.mod_eq_of_lt (by unfold big at ha; omega)
 have h2 : (BitVec.ofInt 64 (b : Int)).toNat = b := by rw [BitVec.ofInt_natCast, BitVec.toNat_ofNat]; exact Nat.mod_eq_of_lt (by unfold big at hb; omega)
 have h3 : (BitVec.ofInt 64 (a : Int) &&& ~~~(BitVec.ofInt 64 (b : Int))).toNat = a &&& (18446744073709551615 - b) := by
  rw [BitVec.toNat_and, BitVec.toNat_not, h1, h2]
 have h4 : a &&& (18446744073709551615 - b) ≤ a := Nat.and_le_left
 show IntKind.i64.wrap ((BitVec.ofInt 64 (a : Int) &&& ~~~(BitVec.ofInt 64 (b : Int))).toNat : Int) = _
 rw [h3, IntKind.wrap_i64]
 unfold big at ha
 omega
theorem andNot_zero {a b : Nat} (ha : a < big) (hb : b < big) : a &&& (18446744073709551615 - b) = 0 ↔ a &&& b = a := by
 have hbit : ∀ i, (18446744073709551615 - b).testBit i = (decide (i < 64) && !b.testBit i) := fun i => by
  have := Nat.testBit_two_pow_sub_succ (x := b) (n := 64) (by unfold big at hb; omega) i
  rw [← this]
  congr 1
  omega
 have hai : ∀ i, 64 ≤ i → a.testBit i = false := fun i hi => Nat.testBit_lt_two_pow (Nat.lt_of_lt_of_le (show a < 2 ^ 64 by unfold big at ha; omega) (Nat.pow_le_pow_right (by decide) hi))
 constructor
 · intro h
   apply Nat.eq_of_testBit_eq
   intro i
   have hi := congrArg (fun x => x.testBit i) h
   simp only [Nat.testBit_and, hbit, Nat.zero_testBit] at hi
   rw [Nat.testBit_and]
   by_cases h64 : i < 64
   · simp only [h64, decide_true, Bool.true_and] at hi
     cases h1 : a.testBit i <;> cases h2 : b.testBit i <;> simp_all
   · rw [hai i (by omega)]; rfl
 · intro h
   apply Nat.eq_of_testBit_eq
   intro i
   have hi := congrArg (fun x => x.testBit i) h
   simp only [Nat.testBit_and] at hi
   rw [Nat.testBit_and, hbit, Nat.zero_testBit]
   cases h1 : a.testBit i <;> cases h2 : b.testBit i <;> simp_all
def rightB (m : Int) : Bool := bits .and .i64 m 3071 == m
theorem right_nat {m : Int} (h : rightB m = true) : ∃ n : Nat, m = n ∧ n ≤ 3071 := by
 unfold rightB at h
 rw [beq_iff_eq] at h
 have h2 : (BitVec.ofInt 64 (3071 : Int)).toNat = 3071 := by decide
 have hle : (BitVec.ofInt 64 m &&& BitVec.ofInt 64 (3071 : Int)).toNat ≤ 3071 := by
  rw [BitVec.toNat_and, h2]; exact Nat.and_le_right
 have h3 : bits .and .i64 m 3071 = IntKind.i64.wrap ((BitVec.ofInt 64 m &&& BitVec.ofInt 64 (3071 : Int)).toNat : Int) := rfl
 rw [h3, IntKind.wrap_i64] at h
 exact ⟨(BitVec.ofInt 64 m &&& BitVec.ofInt 64 (3071 : Int)).toNat, by omega, hle⟩
theorem right_iff {n : Nat} (h : n < big) : rightB (n : Int) = true ↔ n &&& 3071 = n := by
 unfold rightB
 have := and_nat (b := 3071) h (by decide)
 rw [show ((3071 : Nat) : Int) = 3071 from rfl] at this
 rw [this, beq_iff_eq]
 omega
theorem right_any (m : Int) (w : World) : Calls Tryz.prog 36 #[.int .i64 m] w fun e w' => e = .returned (.bool (rightB m)) ∧ w' = w := by
 go_enter Tryz.func36, Tryz.ntmps36
 go_wp2
 go_ret
 exact ⟨rfl, rfl⟩
def yS (m : Nat) (owner group uid gid : Int) : Nat := if uid = owner then m / 64 else if gid = group then m / 8 else m
def mayS (m owner group : Int) (dir : Bool) (uid gid want : Int) : Bool :=
 if rightB m = false ∨ want < 1 ∨ 7 < want then false
 else if uid = 0 then dir || ((want.toNat &&& 1) == 0) || !((m.toNat &&& 73) == 0)
 else (want.toNat &&& yS m.toNat owner group uid gid) == want.toNat
theorem cast_beq (a b : Nat) : ((a : Int) == (b : Int)) = (a == b) := by
 rw [Bool.eq_iff_iff, beq_iff_eq, beq_iff_eq]; omega
theorem zero_beq (a : Nat) : ((a : Int) == 0) = (a == 0) := cast_beq a 0
theorem may_any (m owner group : Int) (dir : Bool) (uid gid want : Int) (w : World) :
  Calls Tryz.prog 35 #[.int .i64 m, .int .i64 owner, .int .i64 group, .bool dir, .int .i64 uid, .int .i64 gid, .int .i64 want] w fun e w' => e = .returned (.bool (mayS m owner group dir uid gid want)) ∧ w' = w := by
 unfold mayS
 by_cases hr : rightB m = true
 · by_cases h1 : want < 1
   · rw [if_pos (.inr (.inl h1))]
     go_enter Tryz.func35, Tryz.ntmps35
     go_wp2_with fail
     refine (right_any _ _).mono ?_
     rintro e w' ⟨he, rfl⟩
     rw [hr] at he
     subst he
     clear hr
     go_wp2
     go_ret
     exact ⟨rfl, rfl⟩
   · by_cases h7 : 7 < want
     · rw [if_pos (.inr (.inr h7))]
       go_enter Tryz.func35, Tryz.ntmps35
       go_wp2_with fail
       refine (right_any _ _).mono ?_
       rintro e w' ⟨he, rfl⟩
       rw [hr] at he
       subst he
       clear hr
       go_wp2
       go_ret
       exact ⟨rfl, rfl⟩
     · rw [if_neg (by rw [hr]; simp; omega)]
       obtain ⟨n, rfl, hn⟩ := right_nat hr
       obtain ⟨v, rfl⟩ : ∃ v : Nat, want = v := ⟨want.toNat, by omega⟩
       have a1 : bits .and .i64 (v : Int) 1 = ((v &&& 1 : Nat) : Int) := and_nat (b := 1) (by unfold big; omega) (by decide)
       have a2 : bits .and .i64 (n : Int) 73 = ((n &&& 73 : Nat) : Int) := and_nat (b := 73) (by unfold big; omega) (by decide)
       have a3 : ∀ y : Nat, y < big → (bits .andNot .i64 (v : Int) (y : Int) == 0) = ((v &&& y) == v) := fun y hy => by
        rw [andNot_nat (by unfold big; omega) hy, zero_beq, Bool.eq_iff_iff, beq_iff_eq, beq_iff_eq]
        exact andNot_zero (by unfold big; omega) hy
       rw [Int.toNat_natCast, Int.toNat_natCast]
       by_cases hu : uid = 0
       · rw [if_pos hu]
         subst hu
         have z1 := zero_beq (v &&& 1)
         have z2 := zero_beq (n &&& 73)
         rw [← z1, ← z2]
         clear a3 hn z1 z2
         generalize ((v &&& 1 : Nat) : Int) = x1 at *
         generalize ((n &&& 73 : Nat) : Int) = x2 at *
         go_enter Tryz.func35, Tryz.ntmps35
         go_wp2_with fail
         refine (right_any _ _).mono ?_
         rintro e w' ⟨he, rfl⟩
         rw [hr] at he
         subst he
         clear hr
         go_wp2
         all_goals go_ret
         all_goals refine ⟨?_, rfl⟩
         all_goals simp [*, bne]
       · rw [if_neg hu]
         have b0 : (bits .andNot .i64 (v : Int) (n : Int) == 0) = ((v &&& n) == v) := a3 n (by unfold big; omega)
         have b1 : (bits .andNot .i64 (v : Int) ((n : Int) / 64) == 0) = ((v &&& (n / 64)) == v) := by
          rw [show (n : Int) / 64 = ((n / 64 : Nat) : Int) by omega]; exact a3 _ (by unfold big; omega)
         have b2 : (bits .andNot .i64 (v : Int) ((n : Int) / 8) == 0) = ((v &&& (n / 8)) == v) := by
          rw [show (n : Int) / 8 = ((n / 8 : Nat) : Int) by omega]; exact a3 _ (by unfold big; omega)
         unfold yS
         by_cases ho : uid = owner
         · rw [if_pos ho, ← b1]
           clear a1 a2 a3 b0 b1 b2 hn
           subst ho
           go_enter Tryz.func35, Tryz.ntmps35
           go_wp2_with fail
           refine (right_any _ _).mono ?_
           rintro e w' ⟨he, rfl⟩
           rw [hr] at he
           subst he
           clear hr
           go_wp2
           go_ret
           exact ⟨rfl, rfl⟩
         · rw [if_neg ho]
           by_cases hg : gid = group
           · rw [if_pos hg, ← b2]
             clear a1 a2 a3 b0 b1 b2 hn
             subst hg
             go_enter Tryz.func35, Tryz.ntmps35
             go_wp2_with fail
             refine (right_any _ _).mono ?_
             rintro e w' ⟨he, rfl⟩
             rw [hr] at he
             subst he
             clear hr
             go_wp2
             go_ret
             exact ⟨rfl, rfl⟩
           · rw [if_neg hg, ← b0]
             clear a1 a2 a3 b0 b1 b2 hn
             go_enter Tryz.func35, Tryz.ntmps35
             go_wp2_with fail
             refine (right_any _ _).mono ?_
             rintro e w' ⟨he, rfl⟩
             rw [hr] at he
             subst he
             clear hr
             go_wp2
             go_ret
             exact ⟨rfl, rfl⟩
 · have hr2 : rightB m = false := by simpa using hr
   rw [if_pos (.inl hr2)]
   go_enter Tryz.func35, Tryz.ntmps35
   go_wp2_with fail
   refine (right_any _ _).mono ?_
   rintro e w' ⟨he, rfl⟩
   rw [hr2] at he
   subst he
   clear hr hr2
   go_wp2
   go_ret
   exact ⟨rfl, rfl⟩
theorem rright_any (m : Int) (hm : m < 9223372036854775808) (w : World) : Calls Tryz.prog 55 #[.int .i64 m] w fun e w' => e = .returned (.bool (rightB m)) ∧ w' = w := by
 by_cases h0 : 0 ≤ m
 · obtain ⟨n, rfl⟩ : ∃ n : Nat, m = n := ⟨m.toNat, by omega⟩
   have hn : n < big := by unfold big; omega
   have hk : bits .andNot .i64 (n : Int) 3071 = ((n &&& (18446744073709551615 - 3071) : Nat) : Int) := andNot_nat (b := 3071) hn (by decide)
   have hr : rightB (n : Int) = (((n &&& (18446744073709551615 - 3071) : Nat) : Int) == 0) := by
    rw [Bool.eq_iff_iff, right_iff hn, beq_iff_eq, ← andNot_zero (b := 3071) hn (by decide)]
    omega
   rw [hr]
   clear hr
   generalize ((n &&& (18446744073709551615 - 3071) : Nat) : Int) = k at *
   go_enter Tryz.func55, Tryz.ntmps55
   go_wp2
   go_ret
   exact ⟨rfl, rfl⟩
 · have hr : rightB m = false := by
    cases hh : rightB m with
    | false => rfl
    | true => obtain ⟨n, rfl, _⟩ := right_nat hh; omega
   rw [hr]
   have h1 : m < 0 := by omega
   clear hr h0
   go_enter Tryz.func55, Tryz.ntmps55
   go_wp2
   go_ret
   exact ⟨rfl, rfl⟩
end Go.Proofs.YtafonmnfeibaiaaGreat.Md
namespace Go.Proofs.YtafonmnfeibaiaaGreat.RF
open Go.RowKit
theorem Tie.set {G : Gt} {T : IT.Tr} (h : Tie G T) (k : Nat) {n : RN} {m : IT.Nd} (hk : Kept n m) : Tie (updG G k n) (IT.upd T k (some m)) where
 nok := fun j hj hn => by
  unfold IT.upd at hn
  by_cases e : j = k
  · rw [if_pos e] at hn; cases hn
  · rw [if_neg e] at hn; rw [updG_other _ _ e]; exact h.nok j hj hn
 sok := fun j q hq => by
  unfold IT.upd at hq
  by_cases e : j = k
  · subst e
    rw [if_pos rfl] at hq
    obtain rfl := Option.some.inj hq
    rw [updG_same]; exact hk
  · rw [if_neg e] at hq; rw [updG_other _ _ e]; exact h.sok j q hq
theorem upd_one (G : Gt) (k : Nat) (a b : RN) : updG (updG G k a) k b = updG G k b := by
 funext j
 unfold updG
 by_cases e : j = k
 · rw [if_pos e, if_pos e]
 · rw [if_neg e, if_neg e, if_neg e]
theorem rf_hold {w : World} {t B : Nat} {G : Gt} {T : IT.Tr} (h : Trf w t B G T) (hb : HB T 1000000) (ki : Int) :
  Calls Tryz.prog 95 #[.pointer (some ⟨t, 0, none⟩), .int .i64 ki] w fun e w' => ∃ r, e = .returned (.bool r) ∧ Stf w t B (fun T' => IT.isHold T ki.toNat r T') w' := by
 cases hm : T ki.toNat with
 | none =>
   have HI := Hd (rf_is_no h ki hm)
   have HP : Hid (Stf w t B (fun T' => IT.isHold T ki.toNat false T') w) := Hd (Stf.keep h (Below.refl _ _) (by unfold IT.isHold; rw [hm]; exact ⟨rfl, rfl⟩))
   clear h hm
   go_enter Tryz.func95, Tryz.ntmps95
   go_wp2_with fail
   refine HI.out.mono ?_
   rintro e w' ⟨rfl, rfl⟩
   go_wp2
   go_ret
   exact ⟨false, rfl, HP.out⟩
 | some m =>
   have HI := Hd (rf_is_yes h ki hm)
   obtain ⟨k, rfl, hk1, hk2, hk⟩ := h.nat hm
   have c0 := h.rep.cellT
   have hkp := h.ties.sok k m hk
   have b6 := h.rep.c6 k hk2
   rw [hkp.holds] at b6
   have s6 := h.rep.frozen (k * 10 + 6)
   have hle : (m.holds : Int) ≤ 1000000 := by have := hb k m hk; omega
   have HP : Hid (Stf w t B (fun T' => IT.isHold T (k : Int).toNat true T') (w.setCell ⟨B, k * 10 + 6, none⟩ (.int .i64 ((m.holds : Int) + 1)))) := Hd (by
    have hkp' : Kept { G k with holds := (m.holds : Int) + 1 } { m with holds := m.holds + 1 } := ⟨hkp.is, hkp.kind, hkp.mode, hkp.owner, hkp.group, hkp.tty, rfl, hkp.parent, hkp.data, hkp.names⟩
    exact ⟨_, _, (Mo.refl _ _).set _, h.rep.set hk2 (show 6 < 10 by omega) _ { G k with holds := (m.holds : Int) + 1 } rfl (h.rep.ents k hk2), h.ties.set k hkp', by unfold IT.isHold; rw [hm]; exact ⟨rfl, rfl⟩⟩)
   clear h hm hk hkp
   go_enter Tryz.func95, Tryz.ntmps95
   go_wp2_with fail
   refine HI.out.mono ?_
   rintro e w' ⟨rfl, rfl⟩
   go_wp2
   go_ret
   exact ⟨true, rfl, HP.out⟩
theorem Stf.pre {w w1 w' : World} {t B : Nat} {R : IT.Tr → Prop} (g : Mo B w w1) (s : Stf w1 t B R w') : Stf w t B R w' := by
 obtain ⟨G', T', h1, h2, h3, h4⟩ := s
 exact ⟨G', T', g.trans h1, h2, h3, h4⟩
theorem Stf.imp {w w' : World} {t B : Nat} {R R' : IT.Tr → Prop} (s : Stf w t B R w') (f : ∀ T', R T' → R' T') : Stf w t B R' w' := by
 obtain ⟨G', T', h1, h2, h3, h4⟩ := s
 exact ⟨G', T', h1, h2, h3, f T' h4⟩
theorem rf_drop {w : World} {t B : Nat} {G : Gt} {T : IT.Tr} (h : Trf w t B G T) (hb : HB T 1000000) (ki : Int) :
  Calls Tryz.prog 68 #[.pointer (some ⟨t, 0, none⟩), .int .i64 ki] w fun e w' => ∃ r, e = .returned (.bool r) ∧ Stf w t B (fun T' => IT.isDrop T ki.toNat r T') w' := by
 cases hm : T ki.toNat with
 | none =>
   have HI := Hd (rf_is_no h ki hm)
   have HP : Hid (Stf w t B (fun T' => IT.isDrop T ki.toNat false T') w) := Hd (Stf.keep h (Below.refl _ _) (by unfold IT.isDrop; rw [hm]; exact ⟨rfl, rfl⟩))
   clear h hm
   go_enter Tryz.func68, Tryz.ntmps68
   go_wp2_with fail
   refine HI.out.mono ?_
   rintro e w' ⟨rfl, rfl⟩
   go_wp2
   go_ret
   exact ⟨false, rfl, HP.out⟩
 | some m =>
   have HI := Hd (rf_is_yes h ki hm)
   obtain ⟨k, rfl, hk1, hk2, hk⟩ := h.nat hm
   have c0 := h.rep.cellT
   have hkp := h.ties.sok k m hk
   have b6 := h.rep.c6 k hk2
   rw [hkp.holds] at b6
   have s6 := h.rep.frozen (k * 10 + 6)
   by_cases hz : m.holds = 0
   · have HP : Hid (Stf w t B (fun T' => IT.isDrop T (k : Int).toNat false T') w) := Hd (Stf.keep h (Below.refl _ _) (by unfold IT.isDrop; rw [hm]; dsimp only; rw [if_pos hz]; exact ⟨rfl, rfl⟩))
     rw [hz] at b6
     clear h hm hk hkp hz
     go_enter Tryz.func68, Tryz.ntmps68
     go_wp2_with fail
     refine HI.out.mono ?_
     rintro e w' ⟨rfl, rfl⟩
     go_wp2
     go_ret
     exact ⟨false, rfl, HP.out⟩
   · have hz1 : ((m.holds : Int) == 0) = false := by simpa using hz
     have hle : (m.holds : Int) ≤ 1000000 := by have := hb k m hk; omega
     have hge : (1 : Int) ≤ m.holds := by omega
     have hkp' : Kept { G k with holds := (m.holds : Int) - 1 } { m with holds := m.holds - 1 } := ⟨hkp.is, hkp.kind, hkp.mode, hkp.owner, hkp.group, hkp.tty, (by show (m.holds : Int) - 1 = ((m.holds - 1 : Nat) : Int); omega), hkp.parent, hkp.data, hkp.names⟩
     have HRF := Hd (h.rep.set hk2 (show 6 < 10 by omega) (.int .i64 ((m.holds : Int) - 1)) { G k with holds := (m.holds : Int) - 1 } rfl (h.rep.ents k hk2))
     have HTI := Hd (h.ties.set k hkp')
     have HSN := Hd (h.snd.1.same hk (n' := { m with holds := m.holds - 1 }) rfl rfl rfl (h.snd.1.size k m hk))
     have HM := Hd hm
     have HNZ := Hd hz
     have HMO := Hd ((Mo.refl B w).set (i := k * 10 + 6) (.int .i64 ((m.holds : Int) - 1)))
     clear h hm hk hkp hz hkp'
     generalize hmh : (m.holds : Int) = mh at *
     have HMH := Hd hmh
     clear hmh
     go_enter Tryz.func68, Tryz.ntmps68
     go_wp2_with fail
     refine HI.out.mono ?_
     rintro e w' ⟨rfl, rfl⟩
     go_wp2_with fail
     refine (rf_gone HRF.out HTI.out HSN.out).mono ?_
     rintro e w' ⟨rfl, hs⟩
     have HS := Hd (Stf.pre HMO.out hs)
     clear hs
     go_wp2
     go_ret
     refine ⟨true, rfl, HS.out.imp fun T' hT' => ?_⟩
     unfold IT.isDrop
     rw [HM.out]
     dsimp only
     rw [if_neg HNZ.out]
     exact ⟨rfl, hT'⟩
def idB (n : Int) : Bool := decide (0 ≤ n ∧ n ≤ 65535)
theorem rf_id (n : Int) (w : World) : Calls Tryz.prog 56 #[.int .i64 n] w fun e w' => e = .returned (.bool (idB n)) ∧ w = w' := by
 go_enter Tryz.func56, Tryz.ntmps56
 go_wp2
 all_goals go_ret
 all_goals exact ⟨ret_bool (by rw [Bool.eq_iff_iff]; simp [idB, *]; try omega), rfl⟩
theorem right_ids (m o g : Int) : rightB m o g = (Md.rightB m && (idB o && idB g)) := by
 unfold rightB Md.rightB idB
 congr 1
 rw [← Bool.decide_and]
 exact decide_eq_decide.2 ⟨fun ⟨a, b, c, d⟩ => ⟨⟨a, c⟩, b, d⟩, fun ⟨⟨a, c⟩, b, d⟩ => ⟨a, b, c, d⟩⟩
theorem rf_set_no {w : World} {t B : Nat} {G : Gt} {T : IT.Tr} (h : Trf w t B G T) (ki mo o g : Int) (hm : T ki.toNat = none) :
  Calls Tryz.prog 102 #[.pointer (some ⟨t, 0, none⟩), .int .i64 ki, .int .i64 mo, .int .i64 o, .int .i64 g] w fun e w' => e = .returned (.int .i64 3) ∧ w = w' := by
 have HI := Hd (rf_is_no h ki hm)
 clear h hm
 go_enter Tryz.func102, Tryz.ntmps102
 go_wp2_with fail
 refine HI.out.mono ?_
 rintro e w' ⟨rfl, rfl⟩
 go_wp2
 go_ret
 exact ⟨rfl, rfl⟩
theorem rf_set_bad {w : World} {t B : Nat} {G : Gt} {T : IT.Tr} (h : Trf w t B G T) (ki mo o g : Int) (hmo : mo < 9223372036854775808) {m : IT.Nd} (hm : T ki.toNat = some m) (hr : rightB mo o g = false) :
  Calls Tryz.prog 102 #[.pointer (some ⟨t, 0, none⟩), .int .i64 ki, .int .i64 mo, .int .i64 o, .int .i64 g] w fun e w' => e = .returned (.int .i64 1) ∧ w = w' := by
 have HI := Hd (rf_is_yes h ki hm)
 have HR := Hd (Md.rright_any mo hmo w)
 have HO := Hd (rf_id o w)
 have HG := Hd (rf_id g w)
 rw [right_ids] at hr
 clear h hm hmo
 cases h1 : Md.rightB mo with
 | false =>
   rw [h1] at HR
   clear hr h1
   go_enter Tryz.func102, Tryz.ntmps102
   go_wp2_with fail
   refine HI.out.mono ?_
   rintro e w' ⟨rfl, rfl⟩
   go_wp2_with fail
   refine HR.out.mono ?_
   rintro e w' ⟨rfl, rfl⟩
   go_wp2
   go_ret
   exact ⟨rfl, rfl⟩
 | true =>
   rw [h1] at HR hr
   cases h2 : idB o with
   | false =>
     rw [h2] at HO
     clear hr h1 h2
     go_enter Tryz.func102, Tryz.ntmps102
     go_wp2_with fail
     refine HI.out.mono ?_
     rintro e w' ⟨rfl, rfl⟩
     go_wp2_with fail
     refine HR.out.mono ?_
     rintro e w' ⟨rfl, rfl⟩
     go_wp2_with fail
     refine HO.out.mono ?_
     rintro e w' ⟨rfl, rfl⟩
     go_wp2
     go_ret
     exact ⟨rfl, rfl⟩
   | true =>
     have h3 : idB g = false := by rw [h2] at hr; simpa using hr
     rw [h2] at HO
     rw [h3] at HG
     clear hr h1 h2 h3
     go_enter Tryz.func102, Tryz.ntmps102
     go_wp2_with fail
     refine HI.out.mono ?_
     rintro e w' ⟨rfl, rfl⟩
     go_wp2_with fail
     refine HR.out.mono ?_
     rintro e w' ⟨rfl, rfl⟩
     go_wp2_with fail
     refine HO.out.mono ?_
     rintro e w' ⟨rfl, rfl⟩
     go_wp2_with fail
     refine HG.out.mono ?_
     rintro e w' ⟨rfl, rfl⟩
     go_wp2
     go_ret
     exact ⟨rfl, rfl⟩
theorem right_parts {m o g : Int} (h : rightB m o g = true) : Md.rightB m = true ∧ idB o = true ∧ idB g = true := by
 rw [right_ids] at h
 simpa using h
theorem Rf.set3 {w : World} {t B : Nat} {G : Gt} (h : Rf w t B G) {k : Nat} (hk : k ≤ 200) (mo o g : Int) : Rf (((w.setCell ⟨B, k * 10 + 2, none⟩ (.int .i64 mo)).setCell ⟨B, k * 10 + 3, none⟩ (.int .i64 o)).setCell ⟨B, k * 10 + 4, none⟩ (.int .i64 g)) t B (updG G k { G k with mode := mo, owner := o, group := g }) := by
 have h1 := h.set hk (show 2 < 10 by omega) (.int .i64 mo) { G k with mode := mo } rfl (h.ents k hk)
 have h2 := h1.set hk (show 3 < 10 by omega) (.int .i64 o) { G k with mode := mo, owner := o } (by rw [updG_same]; rfl) (by have := h1.ents k hk; rw [updG_same] at this; exact this)
 have h3 := h2.set hk (show 4 < 10 by omega) (.int .i64 g) { G k with mode := mo, owner := o, group := g } (by rw [updG_same]; rfl) (by have := h2.ents k hk; rw [updG_same] at this; exact this)
 rw [upd_one, upd_one] at h3
 exact h3
theorem rf_set {w : World} {t B : Nat} {G : Gt} {T : IT.Tr} (h : Trf w t B G T) (ki mo o g : Int) (hmo : mo < 9223372036854775808) :
  Calls Tryz.prog 102 #[.pointer (some ⟨t, 0, none⟩), .int .i64 ki, .int .i64 mo, .int .i64 o, .int .i64 g] w fun e w' => ∃ r, e = .returned (.int .i64 r) ∧ Stf w t B (fun T' => IT.isSet rt T ki.toNat mo o g r T') w' := by
 cases hm : T ki.toNat with
 | none =>
   refine (rf_set_no h ki mo o g hm).mono ?_
   rintro e w' ⟨rfl, rfl⟩
   exact ⟨3, rfl, Stf.keep h (Below.refl _ _) (by unfold IT.isSet; rw [hm]; exact ⟨rfl, rfl⟩)⟩
 | some m =>
   cases hr : rightB mo o g with
   | false =>
     refine (rf_set_bad h ki mo o g hmo hm hr).mono ?_
     rintro e w' ⟨rfl, rfl⟩
     exact ⟨1, rfl, Stf.keep h (Below.refl _ _) (by unfold IT.isSet; rw [hm]; dsimp only; rw [if_pos (by unfold rt; rw [hr]; decide)]; exact ⟨rfl, rfl⟩)⟩
   | true =>
     obtain ⟨r1, r2, r3⟩ := right_parts hr
     have HI := Hd (rf_is_yes h ki hm)
     have HR := Hd (Md.rright_any mo hmo w)
     have HO := Hd (rf_id o w)
     have HG := Hd (rf_id g w)
     rw [r1] at HR
     rw [r2] at HO
     rw [r3] at HG
     obtain ⟨k, rfl, hk1, hk2, hk⟩ := h.nat hm
     have c0 := h.rep.cellT
     have hkp := h.ties.sok k m hk
     have b2 := h.rep.c2 k hk2
     have b3 := h.rep.c3 k hk2
     have b4 := h.rep.c4 k hk2
     have s2 := h.rep.frozen (k * 10 + 2)
     have s3 := h.rep.frozen (k * 10 + 3)
     have s4 := h.rep.frozen (k * 10 + 4)
     have hne : t ≠ B := h.rep.ne
     have hkp' : Kept { G k with mode := mo, owner := o, group := g } { m with mode := mo, owner := o, group := g } := ⟨hkp.is, hkp.kind, rfl, rfl, rfl, hkp.tty, hkp.holds, hkp.parent, hkp.data, hkp.names⟩
     have HP : Hid (Stf w t B (fun T' => IT.isSet rt T (k : Int).toNat mo o g 0 T') _) := Hd ⟨_, _, (((Mo.refl _ _).set _).set _).set _, h.rep.set3 hk2 mo o g, h.ties.set k hkp', by
      unfold IT.isSet; rw [hm]; dsimp only; rw [if_neg (fun hh => hh hr)]; exact ⟨rfl, rfl⟩⟩
     clear h hm hk hkp hkp' hr r1 r2 r3 hmo
     go_enter Tryz.func102, Tryz.ntmps102
     go_wp2_with fail
     refine HI.out.mono ?_
     rintro e w' ⟨rfl, rfl⟩
     go_wp2_with fail
     refine HR.out.mono ?_
     rintro e w' ⟨rfl, rfl⟩
     go_wp2_with fail
     refine HO.out.mono ?_
     rintro e w' ⟨rfl, rfl⟩
     go_wp2_with fail
     refine HG.out.mono ?_
     rintro e w' ⟨rfl, rfl⟩
     go_wp2
     go_ret
     exact ⟨0, rfl, HP.out⟩
theorem fileE_bad {o : Option IT.Nd} (h : fileE o ≠ 0) : fileE o = 1 ∨ fileE o = 3 ∨ fileE o = 7 := by
 unfold fileE at h ⊢
 cases o with
 | none => exact .inr (.inl rfl)
 | some m =>
   dsimp only at h ⊢
   split
   · exact .inr (.inr rfl)
   · split
     · exact .inl rfl
     · rename_i h1 h2; rw [if_neg h1, if_neg h2] at h; exact absurd rfl h
theorem fileE_ok {o : Option IT.Nd} (h : fileE o = 0) : ∃ m, o = some m ∧ m.kind ≠ 1 ∧ m.kind ≠ 2 := by
 unfold fileE at h
 cases o with
 | none => cases h
 | some m =>
   dsimp only at h
   split at h
   · cases h
   · split at h
     · cases h
     · rename_i h1 h2; exact ⟨m, rfl, h1, h2⟩
theorem cut_stay {T : IT.Tr} {k : Nat} (h : fileE (T k) ≠ 0) : IT.isCut T k (fileE (T k)) T := by
 unfold IT.isCut fileE at *
 cases hk : T k with
 | none => exact ⟨rfl, rfl⟩
 | some m =>
   rw [hk] at h
   dsimp only at h ⊢
   split
   · exact ⟨rfl, rfl⟩
   · split
     · exact ⟨rfl, rfl⟩
     · rename_i h1 h2; rw [if_neg h1, if_neg h2] at h; exact absurd rfl h
theorem put_stay {T : IT.Tr} {k : Nat} (a : Int) (s : IT.Bytes) (h : fileE (T k) ≠ 0) : IT.isPut T k a s (fileE (T k)) T := by
 unfold IT.isPut fileE at *
 cases hk : T k with
 | none => exact ⟨rfl, rfl⟩
 | some m =>
   rw [hk] at h
   dsimp only at h ⊢
   split
   · exact ⟨rfl, rfl⟩
   · split
     · exact ⟨rfl, rfl⟩
     · rename_i h1 h2; rw [if_neg h1, if_neg h2] at h; exact absurd rfl h
theorem Kept.setData {n : RN} {m : IT.Nd} (h : Kept n m) (a : ByteArray) (b : IT.Bytes) (hab : bs a = b) : Kept { n with data := a } { m with data := b } := ⟨h.is, h.kind, h.mode, h.owner, h.group, h.tty, h.holds, h.parent, hab, h.names⟩
theorem rf_cut {w : World} {t B : Nat} {G : Gt} {T : IT.Tr} (h : Trf w t B G T) (ki : Int) :
  Calls Tryz.prog 96 #[.pointer (some ⟨t, 0, none⟩), .int .i64 ki] w fun e w' => ∃ r, e = .returned (.int .i64 r) ∧ Stf w t B (fun T' => IT.isCut T ki.toNat r T') w' := by
 have HF := Hd (rf_file h ki)
 by_cases hz : fileE (T ki.toNat) = 0
 · obtain ⟨m, hm, hm1, hm2⟩ := fileE_ok hz
   rw [hz] at HF
   obtain ⟨k, rfl, hk1, hk2, hk⟩ := h.nat hm
   have c0 := h.rep.cellT
   have hkp := h.ties.sok k m hk
   have b8 := h.rep.c8 k hk2
   have s8 := h.rep.frozen (k * 10 + 8)
   have HP : Hid (Stf w t B (fun T' => IT.isCut T (k : Int).toNat 0 T') (w.setCell ⟨B, k * 10 + 8, none⟩ (.string ⟨#[]⟩))) := Hd ⟨_, _, (Mo.refl _ _).set _, h.rep.set hk2 (show 8 < 10 by omega) _ { G k with data := ⟨#[]⟩ } rfl (h.rep.ents k hk2), h.ties.set k (hkp.setData ⟨#[]⟩ [] rfl), by
    unfold IT.isCut; rw [hm]; dsimp only; rw [if_neg hm1, if_neg hm2]; exact ⟨rfl, rfl⟩⟩
   clear h hm hk hkp hm1 hm2 hz
   go_enter Tryz.func96, Tryz.ntmps96
   go_wp2_with fail
   refine HF.out.mono ?_
   rintro e w' ⟨rfl, rfl⟩
   go_wp2
   go_ret
   exact ⟨0, rfl, HP.out⟩
 · have HP := Hd (Stf.keep h (Below.refl _ _) (R := fun T' => IT.isCut T ki.toNat (fileE (T ki.toNat)) T') (cut_stay hz))
   have hb := fileE_bad hz
   generalize fileE (T ki.toNat) = e0 at *
   clear hz h
   rcases hb with rfl | rfl | rfl
   all_goals
    go_enter Tryz.func96, Tryz.ntmps96
    go_wp2_with fail
    refine HF.out.mono ?_
    rintro e w' ⟨rfl, rfl⟩
    go_wp2
    go_ret
    exact ⟨_, rfl, HP.out⟩
theorem rest_small (d : ByteArray) (a : Nat) (s : ByteArray) (h : a + s.size < d.size) : putAt d a s = d.extract 0 a ++ s ++ d.extract (a + s.size) d.size := by
 unfold putAt; rw [Nat.min_eq_right (by omega)]
theorem rest_none (d : ByteArray) (a : Nat) (s : ByteArray) (h : ¬ a + s.size < d.size) : putAt d a s = d.extract 0 a ++ s ++ ⟨#[]⟩ := by
 unfold putAt; rw [Nat.min_eq_left (by omega)]
 congr 1
 apply ByteArray.ext
 simp
theorem rf_put {w : World} {t B : Nat} {G : Gt} {T : IT.Tr} (h : Trf w t B G T) (ki a : Int) (s : ByteArray) (hsz : s.size ≤ maxLen) (ha1 : -9223372036854775808 ≤ a):
  Calls Tryz.prog 104 #[.pointer (some ⟨t, 0, none⟩), .int .i64 ki, .int .i64 a, .string s] w fun e w' => ∃ r, e = .returned (.int .i64 r) ∧ Stf w t B (fun T' => IT.isPut T ki.toNat a (bs s) r T') w' := by
 have HF := Hd (rf_file h ki)
 by_cases hz : fileE (T ki.toNat) = 0
 · obtain ⟨m, hm, hm1, hm2⟩ := fileE_ok hz
   rw [hz] at HF
   obtain ⟨k, rfl, hk1, hk2, hk⟩ := h.nat hm
   have c0 := h.rep.cellT
   have hkp := h.ties.sok k m hk
   have b8 := h.rep.c8 k hk2
   have s8 := h.rep.frozen (k * 10 + 8)
   have hd4 : (G k).data.size ≤ 4096 := by have := h.snd.1.size k m hk; rw [← hkp.data, bs_len] at this; exact this
   have hdl : m.data.length = (G k).data.size := by rw [← hkp.data, bs_len]
   have hsl := bs_len s
   have hstay : ∀ r : Int, IT.isPut T (k : Int).toNat a (bs s) r T → Hid (Stf w t B (fun T' => IT.isPut T (k : Int).toNat a (bs s) r T') w) := fun r hr => Hd (Stf.keep h (Below.refl _ _) hr)
   by_cases hbad : a < 0 ∨ ((G k).data.size : Int) < a
   · have HP := hstay 1 (by unfold IT.isPut; rw [hm]; dsimp only; rw [if_neg hm1, if_neg hm2, if_pos (by rw [hdl]; omega)]; exact ⟨rfl, rfl⟩)
     clear hstay h hm hk hkp hm1 hm2 hz hdl hsl hd4
     generalize (G k).data = d at *
     by_cases h1 : a < 0
     · clear hbad
       go_enter Tryz.func104, Tryz.ntmps104
       go_wp2_with fail
       refine HF.out.mono ?_
       rintro e w' ⟨rfl, rfl⟩
       go_wp2
       go_ret
       exact ⟨1, rfl, HP.out⟩
     · have h2 : (d.size : Int) < a := by omega
       clear hbad
       go_enter Tryz.func104, Tryz.ntmps104
       go_wp2_with fail
       refine HF.out.mono ?_
       rintro e w' ⟨rfl, rfl⟩
       go_wp2
       go_ret
       exact ⟨1, rfl, HP.out⟩
   · obtain ⟨n, rfl⟩ : ∃ n : Nat, a = (n : Int) := ⟨a.toNat, by omega⟩
     have hn : n ≤ (G k).data.size := by omega
     by_cases hfull : 4096 < s.size + n
     · have HP := hstay 9 (by unfold IT.isPut; rw [hm]; dsimp only; rw [if_neg hm1, if_neg hm2, if_neg (by rw [hdl]; omega), if_pos (by rw [hsl]; omega)]; exact ⟨rfl, rfl⟩)
       have e1 : (n : Int) ≤ (G k).data.size := by omega
       have e2 : (n : Int) ≤ 4096 := by omega
       have e3 : 4096 - (n : Int) < s.size := by omega
       clear hstay h hm hk hkp hm1 hm2 hz hdl hsl hd4 hbad hn hfull ha1
       generalize (G k).data = d at *
       go_enter Tryz.func104, Tryz.ntmps104
       go_wp2_with fail
       refine HF.out.mono ?_
       rintro e w' ⟨rfl, rfl⟩
       go_wp2
       go_ret
       exact ⟨9, rfl, HP.out⟩
     · have hkp' := hkp.setData (putAt (G k).data n s) _ (putAt_bs (G k).data n s)
       have hle := putAt_le (G k).data n s hd4 hn (by omega)
       have HP : Hid (Stf w t B (fun T' => IT.isPut T (k : Int).toNat (n : Int) (bs s) 0 T') (w.setCell ⟨B, k * 10 + 8, none⟩ (.string (putAt (G k).data n s))).drew) := Hd (by
        refine ⟨_, _, ((Mo.refl _ _).set _).drew, (h.rep.set hk2 (show 8 < 10 by omega) (.string (putAt (G k).data n s)) { G k with data := putAt (G k).data n s } rfl (h.rep.ents k hk2)).below (Below.refl _ _).drew, h.ties.set k hkp', ?_⟩
        unfold IT.isPut; rw [hm]; dsimp only; rw [if_neg hm1, if_neg hm2, if_neg (by rw [hdl]; omega), if_neg (by rw [hsl]; omega), hkp.data]; exact ⟨rfl, rfl⟩)
       have e1 : (n : Int) ≤ (G k).data.size := by omega
       have e2 : (n : Int) ≤ 4096 := by omega
       have e3 : (s.size : Int) + n ≤ 4096 := by omega
       have e4 : ((G k).data.size : Int) ≤ 4096 := by omega
       have hr1 := rest_small (G k).data n s
       have hr2 := rest_none (G k).data n s
       have HR1 := Hd hr1
       have HR2 := Hd hr2
       clear hstay h hm hk hkp hm1 hm2 hz hdl hsl hd4 hbad hn hfull ha1 hkp' hle hr1 hr2
       generalize (G k).data = d at *
       by_cases hrest : n + s.size < d.size
       · have HX := Hd (HR1.out hrest)
         have hi : (n : Int) + s.size < d.size := by omega
         clear HR1 HR2 hrest
         go_enter Tryz.func104, Tryz.ntmps104
         go_wp2_with fail
         refine HF.out.mono ?_
         rintro e w' ⟨rfl, rfl⟩
         go_wp2
         go_region
         go_wp2
         go_ret
         rw [← HX.out]
         exact ⟨0, rfl, HP.out⟩
       · have HX := Hd (HR2.out hrest)
         have hi : (d.size : Int) ≤ (n : Int) + s.size := by omega
         clear HR1 HR2 hrest
         go_enter Tryz.func104, Tryz.ntmps104
         go_wp2_with fail
         refine HF.out.mono ?_
         rintro e w' ⟨rfl, rfl⟩
         go_wp2
         go_region
         go_wp2
         go_ret
         rw [← HX.out]
         exact ⟨0, rfl, HP.out⟩
 · have HP := Hd (Stf.keep h (Below.refl _ _) (R := fun T' => IT.isPut T ki.toNat a (bs s) (fileE (T ki.toNat)) T') (put_stay a (bs s) hz))
   have hb := fileE_bad hz
   generalize fileE (T ki.toNat) = e0 at *
   clear hz h hsz ha1
   rcases hb with rfl | rfl | rfl
   all_goals
    go_enter Tryz.func104, Tryz.ntmps104
    go_wp2_with fail
    refine HF.out.mono ?_
    rintro e w' ⟨rfl, rfl⟩
    go_wp2
    go_ret
    exact ⟨_, rfl, HP.out⟩
theorem look_idx (s : ByteArray) : ∀ l : List (ByteArray × Nat), (look l s = none ∧ ∀ p ∈ l, p.1 ≠ s) ∨ ∃ i x, look l s = some x ∧ l[i]? = some (s, x) ∧ ∀ (j : Nat) (p : ByteArray × Nat), j < i → l[j]? = some p → p.1 ≠ s
 | [] => .inl ⟨rfl, fun p hp => by cases hp⟩
 | q :: l => by
   by_cases hq : q.1 = s
   · refine .inr ⟨0, q.2, ?_, ?_, fun j p hj => by omega⟩
     · unfold look; rw [List.find?_cons, decide_eq_true hq]; rfl
     · rw [← hq]; rfl
   · have e : look (q :: l) s = look l s := by unfold look; rw [List.find?_cons, decide_eq_false hq]
     rcases look_idx s l with ⟨h1, h2⟩ | ⟨i, x, h1, h2, h3⟩
     · refine .inl ⟨e.trans h1, fun p hp => ?_⟩
       rcases List.mem_cons.1 hp with rfl | hp
       · exact hq
       · exact h2 p hp
     · refine .inr ⟨i + 1, x, e.trans h1, h2, fun j p hj hp => ?_⟩
       cases j with
       | zero => obtain rfl : q = p := by simpa using hp
                 exact hq
       | succ j => exact h3 j p (by omega) (by simpa using hp)
theorem Tie.find {G : Gt} {T : IT.Tr} (h : Tie G T) (hs : IT.Sound0 okN T) {k : Nat} {m : IT.Nd} (hk : T k = some m) (s : ByteArray) : (IT.findN (bs s) m.names = none ∧ ∀ p ∈ (G k).ents, p.1 ≠ s) ∨ ∃ i x, IT.findN (bs s) m.names = some x ∧ (G k).ents[i]? = some (s, x) ∧ ∀ (j : Nat) (p : ByteArray × Nat), j < i → (G k).ents[j]? = some p → p.1 ≠ s := by
 have e : IT.findN (bs s) m.names = look (G k).ents s := by
  rw [← IT.perm_find (hs.ord k m hk) (h.sok k m hk).names, look_find]
 rw [e]
 exact look_idx s _
theorem rf_look_no {w : World} {t B : Nat} {G : Gt} {T : IT.Tr} (h : Trf w t B G T) (ki : Int) (s : ByteArray) (hd : dirB (T ki.toNat) = false) :
  Calls Tryz.prog 93 #[.pointer (some ⟨t, 0, none⟩), .int .i64 ki, .string s] w fun e w' => e = .returned (.tuple #[.int .i64 0, .bool false]) ∧ w = w' := by
 have HD := Hd (rf_dir h ki)
 rw [hd] at HD
 clear h hd
 go_enter Tryz.func93, Tryz.ntmps93
 go_wp2_with fail
 refine HD.out.mono ?_
 rintro e w' ⟨rfl, rfl⟩
 go_wp2
 go_ret2
 exact ⟨rfl, rfl⟩
theorem rf_look_dir {w : World} {t B : Nat} {G : Gt} {T : IT.Tr} (h : Trf w t B G T) (ki : Int) (s : ByteArray) {m : IT.Nd} (hm : T ki.toNat = some m) (hd : m.kind = 1) :
  Calls Tryz.prog 93 #[.pointer (some ⟨t, 0, none⟩), .int .i64 ki, .string s] w fun e w' => e = .returned (lookV (lookT T ki.toNat (bs s))) ∧ w = w' := by
 obtain ⟨k, rfl, hk1, hk2, hk⟩ := h.nat hm
 have HD := Hd (rf_dir h (k : Int))
 rw [hm, show dirB (some m) = true from by unfold dirB; simpa using hd] at HD
 have c0 := h.rep.cellT
 have hkp := h.ties.sok k m hk
 have e1 : s.toList = bs s := ByteArray.toList_eq s
 have HL : Hid (lookT T (k : Int).toNat (bs s) = if bs s = [46] then some k else if bs s = [46, 46] then some m.parent else IT.findN (bs s) m.names) := Hd (by
  unfold lookT; rw [hm]; dsimp only; rw [if_neg (fun hh => hh hd)]; rfl)
 by_cases d1 : bs s = [46]
 · have z1 : (s.toList == [46]) = true := by rw [e1, d1]; rfl
   rw [HL.out, if_pos d1]
   clear h hm hk hkp e1 HL d1
   go_enter Tryz.func93, Tryz.ntmps93
   go_wp2_with fail
   refine HD.out.mono ?_
   rintro e w' ⟨rfl, rfl⟩
   go_wp2
   go_ret2
   exact ⟨rfl, rfl⟩
 · have z1 : (s.toList == [46]) = false := by rw [e1]; exact beq_eq_false_iff_ne.2 d1
   by_cases d2 : bs s = [46, 46]
   · have z2 : (s.toList == [46, 46]) = true := by rw [e1, d2]; rfl
     have b7 := h.rep.c7 k hk2
     rw [hkp.parent hd] at b7
     rw [HL.out, if_neg d1, if_pos d2]
     clear h hm hk hkp e1 HL d1 d2
     go_enter Tryz.func93, Tryz.ntmps93
     go_wp2_with fail
     refine HD.out.mono ?_
     rintro e w' ⟨rfl, rfl⟩
     go_wp2
     go_ret2
     exact ⟨rfl, rfl⟩
   · have z2 : (s.toList == [46, 46]) = false := by rw [e1]; exact beq_eq_false_iff_ne.2 d2
     rw [HL.out, if_neg d1, if_neg d2]
     rcases h.ties.find h.snd.1 hk s with ⟨g1, g2⟩ | ⟨i, x, g1, g2, g3⟩
     · have HA := Hd (rf_at_none h.rep k hk2 s g2)
       rw [g1]
       clear h hm hk hkp e1 HL d1 d2 g1 g2
       go_enter Tryz.func93, Tryz.ntmps93
       go_wp2_with fail
       refine HD.out.mono ?_
       rintro e w' ⟨rfl, rfl⟩
       go_wp2_with fail
       refine HA.out.mono ?_
       rintro e w' ⟨rfl, rfl⟩
       go_wp2
       go_ret2
       exact ⟨rfl, rfl⟩
     · have HA := Hd (rf_at_some h.rep k hk2 s g2 g3)
       rw [g1]
       have b9 := h.rep.c9 k hk2
       obtain ⟨a, cap, hs, hl1, hl2, hl3⟩ := (h.rep.ents k hk2).lit
       rw [hs] at b9
       obtain ⟨g, rfl, f1, f2⟩ := hl3 i _ g2
       have hil : i < (G k).ents.length := (List.getElem?_eq_some_iff.1 g2).1
       have hl40 : (G k).ents.length ≤ 40 := h.ties.few h.snd.1 k hk2
       generalize (G k).ents.length = L at *
       clear h hm hk hkp e1 HL d1 d2 g1 g2 g3 hl1 hl2 hl3 hs f1
       go_enter Tryz.func93, Tryz.ntmps93
       go_wp2_with fail
       refine HD.out.mono ?_
       rintro e w' ⟨rfl, rfl⟩
       go_wp2_with fail
       refine HA.out.mono ?_
       rintro e w' ⟨rfl, rfl⟩
       go_wp2
       go_ret2
       exact ⟨rfl, rfl⟩
theorem rf_look {w : World} {t B : Nat} {G : Gt} {T : IT.Tr} (h : Trf w t B G T) (ki : Int) (s : ByteArray) :
  Calls Tryz.prog 93 #[.pointer (some ⟨t, 0, none⟩), .int .i64 ki, .string s] w fun e w' => e = .returned (lookV (lookT T ki.toNat (bs s))) ∧ w = w' := by
 cases hm : T ki.toNat with
 | none =>
   refine (rf_look_no h ki s (by rw [hm]; rfl)).mono ?_
   rintro e w' ⟨rfl, rfl⟩
   refine ⟨?_, rfl⟩
   unfold lookT; rw [hm]; rfl
 | some m =>
   by_cases hd : m.kind = 1
   · exact rf_look_dir h ki s hm hd
   · refine (rf_look_no h ki s (by rw [hm]; unfold dirB; simpa using hd)).mono ?_
     rintro e w' ⟨rfl, rfl⟩
     refine ⟨?_, rfl⟩
     unfold lookT; rw [hm]; dsimp only; rw [if_pos hd]; rfl
end Go.Proofs.YtafonmnfeibaiaaGreat.RF
namespace Go.Proofs.YtafonmnfeibaiaaGreat.Pp
abbrev Bytes := List UInt8
def partsA : Bytes → Bytes → List Bytes
 | [], acc => if acc = [] then [] else [acc.reverse]
 | c :: l, acc => if c = 47 then (if acc = [] then partsA l [] else acc.reverse :: partsA l []) else partsA l (c :: acc)
def parts (l : Bytes) : List Bytes := partsA l []
theorem partsA_run : ∀ (a r acc : Bytes), (47 : UInt8) ∉ a → partsA (a ++ r) acc = partsA r (a.reverse ++ acc)
 | [], _, _, _ => rfl
 | c :: a, r, acc, h => by
   have hc : c ≠ 47 := fun e => h (by simp [e])
   have ha : (47 : UInt8) ∉ a := fun e => h (by simp [e])
   simp only [List.cons_append, partsA, hc, if_false]
   rw [partsA_run a r (c :: acc) ha]
   simp
theorem parts_cut (a b : Bytes) (h : (47 : UInt8) ∉ a) : parts (a ++ 47 :: b) = (if a = [] then [] else [a]) ++ parts b := by
 unfold parts
 rw [partsA_run a _ [] h]
 by_cases e : a = [] <;> simp [partsA, e]
theorem parts_end (a : Bytes) (h : (47 : UInt8) ∉ a) : parts a = if a = [] then [] else [a] := by
 have := partsA_run a [] [] h
 rw [List.append_nil] at this
 unfold parts
 rw [this]
 by_cases e : a = [] <;> simp [partsA, e]
theorem parts_nil : parts [] = [] := rfl
theorem stroke_at {l : Bytes} {i : Nat} (h : Lib.indexByte l 47 = i) : i < l.length ∧ (47 : UInt8) ∉ l.take i ∧ l = l.take i ++ 47 :: l.drop (i + 1) := by
 obtain ⟨h1, h2⟩ := Lib.indexByte_some h
 obtain ⟨hi, h3⟩ := List.getElem?_eq_some_iff.1 h1
 refine ⟨hi, fun hm => ?_, ?_⟩
 · obtain ⟨k, hk, he⟩ := List.getElem_of_mem hm
   rw [List.getElem_take] at he
   have hk' : k < i := by simp at hk; omega
   exact h2 k hk' (by rw [List.getElem?_eq_getElem (by omega), he])
 · conv => lhs; rw [← List.take_append_drop i l]
   rw [List.drop_eq_getElem_cons hi, h3]
theorem no_stroke {l : Bytes} (h : Lib.indexByte l 47 = -1) : (47 : UInt8) ∉ l := fun hm => by
 obtain ⟨k, hk, he⟩ := List.getElem_of_mem hm
 exact Lib.indexByte_none h k (by rw [List.getElem?_eq_getElem hk, he])
theorem ex_data (s : ByteArray) (a b : Nat) : (s.extract a b).data.toList = (s.data.toList.take b).drop a := by
 rw [ByteArray.data_extract, Array.toList_extract, List.extract_eq_take_drop, List.drop_take]
theorem sz (s : ByteArray) : s.data.toList.length = s.size := by simp
end Go.Proofs.YtafonmnfeibaiaaGreat.Pp
namespace Go.Proofs.YtafonmnfeibaiaaGreat.Pp
def IsTrim (s : ByteArray) (n : Nat) : Prop := n ≤ s.size ∧ (∀ j, n ≤ j → j < s.size → s.data[j]! = 47) ∧ (n = 0 ∨ s.data[n - 1]! ≠ 47)
def IsCut (s : ByteArray) (n i : Nat) : Prop := i ≤ n ∧ (∀ j, i ≤ j → j < n → s.data[j]! ≠ 47) ∧ (i = 0 ∨ s.data[i - 1]! = 47)
def bA (s : ByteArray) (n i : Nat) : ByteArray := if n = 0 then s else s.extract 0 i
def bB (s : ByteArray) (n i : Nat) : ByteArray := if n = 0 then ⟨#[]⟩ else s.extract i n
theorem data_get (s : ByteArray) (j : Nat) (h : j < s.size) : s.data[j]! = s[j] := by
 have h1 : j < s.data.size := h
 rw [getElem!_pos s.data j h1]; rfl
theorem toList_get (s : ByteArray) (j : Nat) (h : j < s.data.toList.length) : s.data.toList[j] = s.data[j]! := by
 have h1 : j < s.data.size := by simpa using h
 rw [getElem!_pos s.data j h1]; simp
end Go.Proofs.YtafonmnfeibaiaaGreat.Pp
namespace Go.Proofs.YtafonmnfeibaiaaGreat.Pp
def okb (c : UInt8) : Bool := decide (32 ≤ c.toNat) && decide (c.toNat ≠ 127)
def splitS (b : Bytes) : Bool × Bool × List Bytes × Int :=
 if b = [] then (false, false, [], 3)
 else if 128 < b.length ∨ ∃ x ∈ parts b, 14 < x.length then (false, false, [], 10)
 else if b.all okb = false then (false, false, [], 1)
 else (Lib.hasPrefix b [47], Lib.hasSuffix b [47] || (((parts b).getLast?.getD [] == [46]) || ((parts b).getLast?.getD [] == [46, 46])), (parts b).filter (fun x => decide (¬ x = [46])), 0)
end Go.Proofs.YtafonmnfeibaiaaGreat.Pp
namespace Go.Proofs.YtafonmnfeibaiaaGreat.Pp
open Go.RowKit
theorem idx_cases : ∀ (l : Bytes) (c : UInt8), Lib.indexByte l c = -1 ∨ ∃ i : Nat, Lib.indexByte l c = i
 | [], _ => .inl rfl
 | b :: l, c => by
   unfold Lib.indexByte
   split
   · exact .inr ⟨0, rfl⟩
   · split
     · exact .inl rfl
     · rcases idx_cases l c with h | ⟨i, h⟩
       · rename_i h2; rw [h] at h2; exact absurd rfl h2
       · exact .inr ⟨i + 1, by rw [h]; rfl⟩
theorem at_d {d : UInt8} {l : Bytes} {i : Nat} (h : Lib.indexByte l d = i) : i < l.length ∧ d ∉ l.take i ∧ l = l.take i ++ d :: l.drop (i + 1) := by
 obtain ⟨h1, h2⟩ := Lib.indexByte_some h
 obtain ⟨hi, h3⟩ := List.getElem?_eq_some_iff.1 h1
 refine ⟨hi, fun hm => ?_, ?_⟩
 · obtain ⟨k, hk, he⟩ := List.getElem_of_mem hm
   rw [List.getElem_take] at he
   have hk' : k < i := by simp at hk; omega
   exact h2 k hk' (by rw [List.getElem?_eq_getElem (by omega), he])
 · conv => lhs; rw [← List.take_append_drop i l]
   rw [List.drop_eq_getElem_cons hi, h3]
theorem no_d {d : UInt8} {l : Bytes} (h : Lib.indexByte l d = -1) : d ∉ l := fun hm => by
 obtain ⟨k, hk, he⟩ := List.getElem_of_mem hm
 exact Lib.indexByte_none h k (by rw [List.getElem?_eq_getElem hk, he])
theorem toList_data (s : ByteArray) : s.toList = s.data.toList := ByteArray.toList_eq s
theorem cutl_some (d : UInt8) (s : ByteArray) (w : World) (i : Nat) (hi : Lib.indexByte s.data.toList d = i) (hs : s.size ≤ 140737488351232) :
  Calls Tryz.prog 125 #[.string s, .string ⟨#[d]⟩] w fun e w' => e = .returned (.tuple #[.string (s.extract 0 i), .string (s.extract (i + 1) s.size), .bool true]) ∧ ∃ n, w' = w.drewN n := by
 have hs1 : (s.size : Int) ≤ 140737488351232 := by omega
 have h1 := (at_d hi).1
 rw [sz] at h1
 have h1i : (i : Int) + 1 ≤ s.size := by omega
 have h1j : (i : Int) ≤ s.size := by omega
 have h1k : (0 : Int) ≤ (i : Int) + 1 := by omega
 have h1l : ((i : Int) + 1).toNat = i + 1 := by omega
 have HI := Hd hi
 clear hi
 go_enter Tryz.func125, Tryz.ntmps125
 go_wp2_with fail
 refine (Tryz.stringslite_Index_one s d _).mono ?_
 rintro e w' ⟨rfl, rfl⟩
 rw [HI.out]
 go_wp2_with fail
 go_region
 go_wp2
 exact bodyPost_ret (v := .tuple #[.string (s.extract 0 i), .string (s.extract (i + 1) s.size), .bool true]) (by simp [results, Tryz.results125, go_sem]) rfl ⟨rfl, 1, rfl⟩
theorem cutl_none (d : UInt8) (s : ByteArray) (w : World) (hi : Lib.indexByte s.data.toList d = -1) :
  Calls Tryz.prog 125 #[.string s, .string ⟨#[d]⟩] w fun e w' => e = .returned (.tuple #[.string s, .string ⟨#[]⟩, .bool false]) ∧ ∃ n, w' = w.drewN n := by
 have HI := Hd hi
 clear hi
 go_enter Tryz.func125, Tryz.ntmps125
 go_wp2_with fail
 refine (Tryz.stringslite_Index_one s d _).mono ?_
 rintro e w' ⟨rfl, rfl⟩
 rw [HI.out]
 go_wp2
 exact bodyPost_ret (v := .tuple #[.string s, .string ⟨#[]⟩, .bool false]) (by simp [results, Tryz.results125, go_sem]) rfl ⟨rfl, 0, rfl⟩
theorem cut_some (d : UInt8) (s : ByteArray) (w : World) (i : Nat) (hi : Lib.indexByte s.data.toList d = i) (hs : s.size ≤ 140737488351232) :
  Calls Tryz.prog 111 #[.string s, .string ⟨#[d]⟩] w fun e w' => e = .returned (.tuple #[.string (s.extract 0 i), .string (s.extract (i + 1) s.size), .bool true]) ∧ ∃ n, w' = w.drewN n := by
 have HI := Hd hi
 clear hi
 go_enter Tryz.func111, Tryz.ntmps111
 go_wp2_with fail
 refine (cutl_some d s _ i HI.out hs).mono ?_
 rintro e w' ⟨rfl, n, rfl⟩
 go_wp2
 exact bodyPost_ret (v := .tuple #[.string (s.extract 0 i), .string (s.extract (i + 1) s.size), .bool true]) (by simp [results, Tryz.results111, go_sem]) rfl ⟨rfl, n, rfl⟩
theorem cut_none (d : UInt8) (s : ByteArray) (w : World) (hi : Lib.indexByte s.data.toList d = -1) :
  Calls Tryz.prog 111 #[.string s, .string ⟨#[d]⟩] w fun e w' => e = .returned (.tuple #[.string s, .string ⟨#[]⟩, .bool false]) ∧ ∃ n, w' = w.drewN n := by
 have HI := Hd hi
 clear hi
 go_enter Tryz.func111, Tryz.ntmps111
 go_wp2_with fail
 refine (cutl_none d s _ HI.out).mono ?_
 rintro e w' ⟨rfl, n, rfl⟩
 go_wp2
 exact bodyPost_ret (v := .tuple #[.string s, .string ⟨#[]⟩, .bool false]) (by simp [results, Tryz.results111, go_sem]) rfl ⟨rfl, n, rfl⟩
def CutPost (d : UInt8) (s : ByteArray) (w : World) (e : Ending) (w' : World) : Prop :=
 ∃ (a b : ByteArray) (ok : Bool), e = .returned (.tuple #[.string a, .string b, .bool ok]) ∧ (∃ k, w' = w.drewN k) ∧ a.size ≤ s.size ∧ b.size ≤ s.size ∧
  ((ok = true ∧ s.data.toList = a.data.toList ++ d :: b.data.toList ∧ d ∉ a.data.toList) ∨ (ok = false ∧ d ∉ s.data.toList ∧ a = s ∧ b = ⟨#[]⟩))
theorem cut_any (d : UInt8) (s : ByteArray) (w : World) (hs : s.size ≤ 140737488351232) : Calls Tryz.prog 111 #[.string s, .string ⟨#[d]⟩] w (CutPost d s w) := by
 rcases idx_cases s.data.toList d with hi | ⟨i, hi⟩
 · refine (cut_none d s w hi).mono ?_
   rintro e w' ⟨rfl, hk⟩
   exact ⟨s, ⟨#[]⟩, false, rfl, hk, Nat.le_refl _, Nat.zero_le _, .inr ⟨rfl, no_d hi, rfl, rfl⟩⟩
 · refine (cut_some d s w i hi hs).mono ?_
   rintro e w' ⟨rfl, hk⟩
   obtain ⟨h1, h2, h3⟩ := at_d hi
   exact ⟨_, _, true, rfl, hk, by rw [ByteArray.size_extract]; exact Nat.le_trans (Nat.sub_le _ _) (Nat.min_le_right _ _), by rw [ByteArray.size_extract]; exact Nat.le_trans (Nat.sub_le _ _) (Nat.min_le_right _ _), .inl ⟨rfl, by
     rw [ex_data, ex_data, List.drop_zero, show s.data.toList.take s.size = s.data.toList from List.take_of_length_le (by rw [sz]; exact Nat.le_refl _)]; exact h3, by rw [ex_data, List.drop_zero]; exact h2⟩⟩
theorem ret_bool {a b : Bool} (h : a = b) : Ending.returned (.bool a) = .returned (.bool b) := by rw [h]
def okc (c : UInt8) : Bool := decide (32 ≤ c.toNat) && decide (c.toNat ≠ 127)
def plainB (l : List UInt8) : Bool := l.all okc
theorem plain_take (s : ByteArray) (k : Nat) (h : k < s.size) : plainB (s.data.toList.take (k + 1)) = (plainB (s.data.toList.take k) && okc s[k]) := by
 unfold plainB
 rw [List.take_succ_eq_append_getElem (by simpa using h), List.all_append]
 simp only [List.all_cons, List.all_nil, Bool.and_true]
 rfl
theorem plain_all (s : ByteArray) (k : Nat) (hk : s.size ≤ k) : s.data.toList.take k = s.data.toList := List.take_of_length_le (by simpa using hk)
theorem plain_bad (s : ByteArray) (k : Nat) (h : k < s.size) (hb : okc s[k] = false) : plainB s.data.toList = false := by
 unfold plainB
 rw [List.all_eq_false]
 exact ⟨s[k], by have : s[k] = s.data.toList[k]'(by simpa using h) := rfl
                 rw [this]; exact List.getElem_mem _, by simp [hb]⟩
theorem plain_any (s : ByteArray) (w : World) (hs : s.size ≤ 1000000) :
  Calls Tryz.prog 47 #[.string s] w fun e w' => e = .returned (.bool (plainB s.data.toList)) ∧ w = w' := by
 go_enter Tryz.func47, Tryz.ntmps47
 go_wp2
 go_loop [6] (fun i => ∃ k : Nat, k ≤ s.size ∧ i = .int .i64 k ∧ plainB (s.data.toList.take k) = true) (fun i => s.size - (intOf i).toNat)
 case atStart => exact ⟨0, Nat.zero_le _, rfl, rfl⟩
 case round =>
  obtain ⟨k, hk, rfl, hp⟩ := hrel
  have HP := Hd hp
  clear hp
  by_cases hlt : k < s.size
  · by_cases h1 : (s[k].toNat : Int) < 32
    · have hb : okc s[k] = false := by simp [okc]; omega
      have HB := Hd hb
      clear hb
      go_wp2
      go_ret
      exact ⟨ret_bool (plain_bad s k hlt HB.out).symm, rfl⟩
    · by_cases h2 : ((s[k].toNat : Int) == 127) = true
      · have hb : okc s[k] = false := by simp at h2; simp [okc]; omega
        have HB := Hd hb
        clear hb
        go_wp2
        go_ret
        exact ⟨ret_bool (plain_bad s k hlt HB.out).symm, rfl⟩
      · have h3 : ((s[k].toNat : Int) == 127) = false := by simpa using h2
        have hb : okc s[k] = true := by simp at h3; simp [okc]; omega
        have HB := Hd hb
        clear hb h2
        go_wp2
        go_round
        case rel => exact ⟨k + 1, by omega, by go_num, by rw [plain_take s k hlt, HP.out, HB.out]; rfl⟩
        case measure => simp [intOf]; omega
  · go_wp2
    go_ret
    exact ⟨ret_bool (by rw [plain_all s k (by omega)] at HP; exact HP.out.symm), rfl⟩
theorem info9 : (Tryz.prog.info? 9).map (fun i => (i.zero, i.size, i.bytes)) = some (some (.string ByteArray.empty), 1, 16) := by kernel_rfl
theorem own_ge {w : World} {base : Nat} {e : TypeId} {sz n : Nat} {v : Value} {xs : List Value} (h : w.ownsRow base e sz v n xs) : ∀ k, v.ownBlock = some k → base ≤ k := by
 intro k hk
 obtain ⟨_, ⟨rfl, h0⟩ | ⟨g, cap, cur, rfl, hb, _⟩⟩ := h
 · cases hk
 · cases hk; exact hb
theorem app_below {w wr w1 : World} {o : Value} {n : Nat} {xs : List Value} (hb : Below w.heap.size w wr) (ho : wr.ownsRow w.heap.size 9 1 o n xs) (X : Obj) (hg : (wr.alloc X).grownBy w1 o.ownBlock) : Below w.heap.size w w1 :=
 (hb.alloc hb.size X).grown hg (by have := hb.size; rw [World.size_alloc]; omega) (own_ge ho)
open Go.RowKit Go.Shelf
attribute [local go_sem] Oper.semAt_some
def left (Bn : Nat) (w : World) : Nat := match w.cell? ⟨Bn, 0, none⟩ with
 | some (.string r) => r.size
 | _ => 0
theorem left_eq {Bn : Nat} {w : World} {r : ByteArray} (h : w.cell? ⟨Bn, 0, none⟩ = some (.string r)) : left Bn w = r.size := by simp [left, h]
theorem names_in (n l Bn : Nat) (s : ByteArray) (J : List ByteArray → World → Prop) (Jx : World → Prop) (hs : s.size ≤ 1000000)
  (hY : ∀ pre x W, J pre W → x.data.toList ∈ parts s.data.toList → x.size ≤ s.size → pre.length < s.size → YieldAt Fence.wide (n - 1) Tryz.prog l #[.string x] W fun e W' =>
    (e = .returned (.bool true) ∧ J (pre ++ [x]) W' ∧ W'.heap[Bn]? = W.heap[Bn]?) ∨ (e = .returned (.bool false) ∧ Jx W'))
  (hC : ∀ pre W v, J pre W → J pre (W.setCell ⟨Bn, 0, none⟩ v)) (hD : ∀ pre W q, J pre W → J pre (W.drewN q))
  (W : World) (hc : W.cell? ⟨Bn, 0, none⟩ = some (.string s)) (hf : W.frozen? ⟨Bn, 0, none⟩ = false) (h0 : J [] W) :
  CallsIn Fence.wide n Tryz.prog 110 #[.func (.yield l) #[] #[], .pointer (some ⟨Bn, 0, none⟩)] W fun e W' => (∃ v, e = .returned v) ∧
   ((∃ xs, xs.map (fun x : ByteArray => x.data.toList) = parts s.data.toList ∧ J xs W') ∨ Jx W') := by
 refine callsIn_of_wp Tryz.func110 rfl trivial ?_ rfl
 simp only [Tryz.ntmps110, List.size_toArray, List.length_cons, List.length_nil, Nat.reduceAdd, Nat.reduceSub, Array.replicate_succ, Array.replicate_zero, List.push_toArray, List.append_toArray, List.nil_append, List.cons_append]
 have HY := Hd hY
 have HC := Hd hC
 have HD := Hd hD
 have H0 := Hd h0
 have HCell := Hd hc
 have HF := Hd hf
 clear hY hC hD h0 hc hf
 gi_wp2
 gi_loopw [3] (fun _ wr => ∃ (pre : List ByteArray) (r : ByteArray), wr.cell? ⟨Bn, 0, none⟩ = some (.string r) ∧ wr.frozen? ⟨Bn, 0, none⟩ = false ∧ pre.length + r.size ≤ s.size ∧ parts s.data.toList = pre.map (fun x : ByteArray => x.data.toList) ++ parts r.data.toList ∧ J pre wr)
  (fun _ wr => left Bn wr)
 case atStart =>
  exact ⟨[], s, HCell.out, HF.out, by simp, by simp, H0.out⟩
 case round =>
  obtain ⟨pre, r, hcr, hfr, hl, hp, hJ⟩ := hrel
  have HP := Hd hp
  have HJ := Hd hJ
  have HL := Hd hl
  clear hp hJ hl
  by_cases hr : r.data.toList = []
  · have hr1 : r.toList = [] := by rw [toList_data]; exact hr
    have HR := Hd hr
    clear hr
    gi_wp2
    go_end0
    exact ⟨⟨_, rfl⟩, .inl ⟨pre, by rw [HP.out, HR.out]; simp [parts_nil], HJ.out⟩⟩
  · have hr1 : r.toList.isEmpty = false := by rw [toList_data]; cases hh : r.data.toList with | nil => exact absurd hh hr | cons => rfl
    have HR := Hd hr
    clear hr
    rcases Int.lt_or_le (Lib.indexByte r.data.toList 47) 0 with hi | hi
    · have HI : Hid (Lib.indexByte r.data.toList 47 = -1) := Hd (by have := Lib.indexByte_ge r.data.toList 47; omega)
      clear hi
      gi_wp2_with fail
      refine ⟨trivial, fun h => (by cases h), ?_⟩
      refine (callsIn_wide.2 (cut_none 47 r _ HI.out)).mono ?_
      rintro e w' ⟨rfl, q, rfl⟩
      have HX : Hid (r.data.toList ≠ []) := HR
      have hrz : 0 < r.size := by rw [← sz]; exact List.length_pos_iff.2 HR.out
      have HPE := Hd (parts_end r.data.toList (no_stroke HI.out))
      obtain ⟨fn, tmps, assign, body, hy, hR⟩ := HY.out pre r (wr.drewN q) (HD.out _ _ _ HJ.out) (by rw [HP.out, HPE.out, if_neg HX.out]; simp) (by have := HL.out; omega) (by have := HL.out; omega)
      gi_wp2
      refine ⟨fun h => (by cases h), hR.mono ?_⟩
      rintro e W3 (⟨rfl, hJ3, hk3⟩ | ⟨rfl, hJx3⟩)
      · have hc3 : W3.cell? ⟨Bn, 0, none⟩ = some (.string r) := (World.cell?_of_block (w := wr.drewN q) (a := ⟨Bn, 0, none⟩) hk3).trans hcr
        have hf3 : W3.frozen? ⟨Bn, 0, none⟩ = false := (World.frozen?_of_block (w := wr.drewN q) (a := ⟨Bn, 0, none⟩) hk3).trans hfr
        have HJ3 := Hd hJ3
        clear hJ3 hk3 hy hR
        gi_wp2
        have e1 : (W3.setCell ⟨Bn, 0, none⟩ (.string ⟨#[]⟩)).cell? ⟨Bn, 0, none⟩ = some (.string ⟨#[]⟩) := World.cell?_setCell_same _ _ _ hc3
        go_roundw
        case rel => exact ⟨pre ++ [r], ⟨#[]⟩, e1, by rw [World.frozen?_setCell]; exact hf3, by have := HL.out; have e9 : ({ data := #[] } : ByteArray).size = 0 := rfl; simp only [List.length_append, List.length_cons, List.length_nil]; omega, by rw [HP.out, HPE.out, if_neg HR.out, show (({ data := #[] } : ByteArray).data.toList) = [] from rfl, parts_nil]; simp, HC.out _ _ _ HJ3.out⟩
        case measure => rw [left_eq e1, left_eq hcr]; exact hrz
      · gi_wp2
        refine bodyPost_ret (results_none rfl _ _ _) rfl ?_
        exact ⟨⟨_, rfl⟩, .inr hJx3⟩
    · obtain ⟨i, hi'⟩ : ∃ i : Nat, Lib.indexByte r.data.toList 47 = i := ⟨(Lib.indexByte r.data.toList 47).toNat, by omega⟩
      have HI := Hd hi'
      have hilt : i < r.size := by have := (stroke_at hi').1; rwa [sz] at this
      have HPE : Hid (parts r.data.toList = (if (r.extract 0 i).data.toList = [] then [] else [(r.extract 0 i).data.toList]) ++ parts (r.extract (i + 1) r.size).data.toList) := Hd (by
       obtain ⟨h1, h2, h3⟩ := stroke_at hi'
       have e1 : (r.extract 0 i).data.toList = r.data.toList.take i := by rw [ex_data]; simp
       have e2 : (r.extract (i + 1) r.size).data.toList = r.data.toList.drop (i + 1) := by rw [ex_data, List.take_of_length_le (by rw [sz]; exact Nat.le_refl _)]
       rw [e1, e2]
       conv => lhs; rw [h3]
       exact parts_cut _ _ h2)
      have hes : (r.extract 0 i).size = i := by simp [ByteArray.size_extract]; omega
      have HES := Hd hes
      clear hi hi' hes
      gi_wp2_with fail
      refine ⟨trivial, fun h => (by cases h), ?_⟩
      refine (callsIn_wide.2 (cut_some 47 r _ i HI.out (by have := HL.out; omega))).mono ?_
      rintro e w' ⟨rfl, q, rfl⟩
      by_cases h0 : i = 0
      · subst h0
        have hx2 : (r.extract 0 0).data.toList = [] := by rw [ex_data]; simp
        have hx1 : (r.extract 0 0).toList = [] := by rw [toList_data]; exact hx2
        have HX := Hd hx2
        have hcr2 : (wr.drewN q).cell? ⟨Bn, 0, none⟩ = some (.string r) := hcr
        clear hx2
        gi_wp2
        refine ⟨fun _ h => (by cases h), ?_⟩
        gi_wp2
        have e1 : ((wr.drewN q).setCell ⟨Bn, 0, none⟩ (.string (r.extract 1 r.size))).cell? ⟨Bn, 0, none⟩ = some (.string (r.extract 1 r.size)) := World.cell?_setCell_same _ _ _ hcr2
        go_roundw
        case rel => exact ⟨pre, r.extract 1 r.size, e1, by rw [World.frozen?_setCell]; exact hfr, by have := HL.out; simp [ByteArray.size_extract]; omega, by rw [HP.out, HPE.out, if_pos HX.out]; simp, HC.out _ _ _ (HD.out _ _ _ HJ.out)⟩
        case measure => rw [left_eq e1, left_eq hcr]; simp [ByteArray.size_extract]; omega
      · have HX : Hid ((r.extract 0 i).data.toList ≠ []) := Hd (fun e => by have := congrArg List.length e; rw [sz, HES.out] at this; exact h0 this)
        have hx1 : (r.extract 0 i).toList.isEmpty = false := by rw [toList_data]; cases hh : (r.extract 0 i).data.toList with | nil => exact absurd hh HX.out | cons => rfl
        obtain ⟨fn, tmps, assign, body, hy, hR⟩ := HY.out pre (r.extract 0 i) (wr.drewN q) (HD.out _ _ _ HJ.out) (by rw [HP.out, HPE.out, if_neg HX.out]; simp) (by have := HL.out; simp [ByteArray.size_extract]; omega) (by have := HL.out; omega)
        gi_wp2
        refine ⟨fun h => (by cases h), hR.mono ?_⟩
        rintro e W3 (⟨rfl, hJ3, hk3⟩ | ⟨rfl, hJx3⟩)
        · have hc3 : W3.cell? ⟨Bn, 0, none⟩ = some (.string r) := (World.cell?_of_block (w := wr.drewN q) (a := ⟨Bn, 0, none⟩) hk3).trans hcr
          have hf3 : W3.frozen? ⟨Bn, 0, none⟩ = false := (World.frozen?_of_block (w := wr.drewN q) (a := ⟨Bn, 0, none⟩) hk3).trans hfr
          have HJ3 := Hd hJ3
          clear hJ3 hk3 hy hR
          gi_wp2
          have e1 : (W3.setCell ⟨Bn, 0, none⟩ (.string (r.extract (i + 1) r.size))).cell? ⟨Bn, 0, none⟩ = some (.string (r.extract (i + 1) r.size)) := World.cell?_setCell_same _ _ _ hc3
          go_roundw
          case rel => exact ⟨pre ++ [(r.extract 0 i)], (r.extract (i + 1) r.size), e1, by rw [World.frozen?_setCell]; exact hf3, by have := HL.out; simp [ByteArray.size_extract]; omega, by rw [HP.out, HPE.out, if_neg HX.out]; simp, HC.out _ _ _ HJ3.out⟩
          case measure => rw [left_eq e1, left_eq hcr]; simp [ByteArray.size_extract]; omega
        · gi_wp2
          refine bodyPost_ret (results_none rfl _ _ _) rfl ?_
          exact ⟨⟨_, rfl⟩, .inr hJx3⟩
end Go.Proofs.YtafonmnfeibaiaaGreat.Pp
namespace Go.Proofs.YtafonmnfeibaiaaGreat.Pp
open Go.RowKit Go.Shelf
attribute [local go_sem] Oper.semAt_some
def kept (xs : List ByteArray) : List ByteArray := xs.filter fun x => decide (¬ x.data.toList = [46])
def lastOf (xs : List ByteArray) : ByteArray := (xs.getLast?).getD ⟨#[]⟩
theorem kept_yes (xs : List ByteArray) (x : ByteArray) (h : ¬ x.data.toList = [46]) : kept (xs ++ [x]) = kept xs ++ [x] := by simp [kept, List.filter_append, h]
theorem kept_no (xs : List ByteArray) (x : ByteArray) (h : x.data.toList = [46]) : kept (xs ++ [x]) = kept xs := by simp [kept, List.filter_append, h]
theorem kept_len (xs : List ByteArray) : (kept xs).length ≤ xs.length := List.length_filter_le _ _
theorem last_app (xs : List ByteArray) (x : ByteArray) : lastOf (xs ++ [x]) = x := by simp [lastOf]
theorem own_same {W W' : World} {base n : Nat} {v : Value} {xs : List Value} (h : W.ownsRow base 9 1 v n xs) (hs : ∀ g o, base ≤ g → W.heap[g]? = some o → W'.heap[g]? = some o) : W'.ownsRow base 9 1 v n xs := by
 obtain ⟨h1, ⟨h2, h3⟩ | ⟨g, cap, cur, h2, hb, hh, rest⟩⟩ := h
 · exact ⟨h1, .inl ⟨h2, h3⟩⟩
 · exact ⟨h1, .inr ⟨g, cap, cur, h2, hb, hs g _ hb hh, rest⟩⟩
structure SI (w0 : World) (abs dir : Bool) (lp : Obj) (xs : List ByteArray) (W : World) : Prop where
 below : Below w0.heap.size w0 W
 res : W.heap[w0.heap.size]? = some (.cells #[.bool false, .slice none 0 0, .bool false] 70 (0, 0))
 err : W.heap[w0.heap.size + 1]? = some (.cells #[.int .i64 0] 32 (0, 0))
 p : ∃ v, W.heap[w0.heap.size + 2]? = some (.cells #[.bool abs, v, .bool dir] 70 (0, 0)) ∧ W.ownsRow (w0.heap.size + 7) 9 1 v (kept xs).length ((kept xs).map .string)
 last : W.heap[w0.heap.size + 3]? = some (.cells #[.string (lastOf xs)] 9 (0, 0))
 dfr : W.heap[w0.heap.size + 5]? = some (.deferred (some []))
 loop : W.heap[w0.heap.size + 6]? = some lp
 size : w0.heap.size + 7 ≤ W.heap.size
theorem SI.turn {w0 W W' : World} {abs dir : Bool} {lp : Obj} {xs : List ByteArray} (h : SI w0 abs dir lp xs W) (hs : ∀ g o, g ≠ w0.heap.size + 4 → W.heap[g]? = some o → W'.heap[g]? = some o) (hb : Below w0.heap.size W W') : SI w0 abs dir lp xs W' where
 below := h.below.trans hb
 res := hs _ _ (by omega) h.res
 err := hs _ _ (by omega) h.err
 p := by obtain ⟨v, h1, h2⟩ := h.p; exact ⟨v, hs _ _ (by omega) h1, own_same h2 (fun g o hg => hs g o (by omega))⟩
 last := hs _ _ (by omega) h.last
 dfr := hs _ _ (by omega) h.dfr
 loop := hs _ _ (by omega) h.loop
 size := Nat.le_trans h.size hb.size
theorem SI.setOwn {w0 W : World} {abs dir : Bool} {lp : Obj} {xs : List ByteArray} (h : SI w0 abs dir lp xs W) (v : Value) : SI w0 abs dir lp xs (W.setCell ⟨w0.heap.size + 4, 0, none⟩ v) :=
 h.turn (fun g o hg ho => by rw [Below.heap_setCell _ _ _ _ hg]; exact ho) ((Below.refl _ _).setCell (by simp) _)
theorem SI.drewN {w0 W : World} {abs dir : Bool} {lp : Obj} {xs : List ByteArray} (h : SI w0 abs dir lp xs W) (q : Nat) : SI w0 abs dir lp xs (W.drewN q) :=
 h.turn (fun _ _ _ ho => ho) ⟨rfl, rfl, rfl, Nat.le_refl _, fun _ _ => rfl⟩
theorem SI.alloc {w0 W : World} {abs dir : Bool} {lp : Obj} {xs : List ByteArray} (h : SI w0 abs dir lp xs W) (o : Obj) : SI w0 abs dir lp xs (W.alloc o) :=
 h.turn (fun g o' _ ho => by rw [Below.heap_alloc _ _ _ (Array.getElem?_eq_some_iff.1 ho).1]; exact ho) ((Below.refl _ _).alloc (by have := h.size; omega) _)
theorem SI.put {w0 W : World} {abs dir : Bool} {lp : Obj} {xs : List ByteArray} (h : SI w0 abs dir lp xs W) (lp' : Obj) : SI w0 abs dir lp' xs (W.putObj (w0.heap.size + 6) lp') where
 below := h.below.trans ⟨rfl, rfl, rfl, by simp, fun k hk => World.putObj_heap_other (by omega)⟩
 res := (World.putObj_heap_other (by omega)).trans h.res
 err := (World.putObj_heap_other (by omega)).trans h.err
 p := by
  obtain ⟨v, h1, h2⟩ := h.p
  exact ⟨v, (World.putObj_heap_other (by omega)).trans h1, own_same h2 (fun g o hg ho => (World.putObj_heap_other (by omega)).trans ho)⟩
 last := (World.putObj_heap_other (by omega)).trans h.last
 dfr := (World.putObj_heap_other (by omega)).trans h.dfr
 loop := World.putObj_heap_same (by have := h.size; omega)
 size := by rw [World.putObj_size]; exact h.size
theorem heap_cell {w : World} {b : Nat} {C : Array Value} {T : TypeId} {f : Nat × Nat} (h : w.heap[b]? = some (.cells C T f)) (i : Nat) : w.cell? ⟨b, i, none⟩ = C[i]? := by simp [World.cell?, h]
theorem heap_free {w : World} {b : Nat} {C : Array Value} {T : TypeId} (h : w.heap[b]? = some (.cells C T (0, 0))) (i : Nat) : w.frozen? ⟨b, i, none⟩ = false := by simp [World.frozen?, h]
theorem mk_names (s : ByteArray) (w : World) :
  Calls Tryz.prog 75 #[.string s] w fun e w' => e = .returned (.func (.func 110) #[] #[.pointer (some ⟨w.heap.size, 0, none⟩)]) ∧ w' = w.alloc (.cells #[.string s] 9) := by
 go_enter Tryz.func75, Tryz.ntmps75
 go_wp2
 go_ret
 exact ⟨rfl, rfl⟩
def splitPost (s : ByteArray) (w : World) (e : Ending) (w' : World) : Prop :=
 ∃ (abs dir : Bool) (v : Value) (l : List ByteArray) (err : Int), e = .returned (.tuple #[.agg #[.bool abs, v, .bool dir], .int .i64 err]) ∧ w'.ownsRow w.heap.size 9 1 v l.length (l.map .string) ∧ Below w.heap.size w w' ∧
  splitS s.data.toList = (abs, dir, l.map (fun x : ByteArray => x.data.toList), err)
theorem range_names {g : Operand} {ps : Array Tmp} {assign body : Code} {Q : Exit → Act → World → Prop} {a : Act} (W : World) (ptr : Value) (hg : a.eval g = .func (.func 110) #[] #[ptr])
  (hcall : ∀ fn : FuncId, CallsIn Fence.wide 2 Tryz.prog 110 #[.func (.yield (W.heap.size + 1)) #[] #[], ptr]
    ((W.alloc (.deferred (some []))).alloc (.loop { state := .ready, pending := none, fn, tmps := a.tmps, params := ps, assign, body, defers := W.heap.size }))
    (rangePost Fence.wide 3 Tryz.prog (W.heap.size + 1) Q { a with defers := [{ target := .collected W.heap.size, args := #[] }] ++ a.defers })) :
  (Code.rangeFunc g ps assign body).wpIn Fence.wide 3 Tryz.prog Q a W := by
 refine wpIn_rangeFunc (fun fn _ => ?_)
 obtain ⟨W1, hW1⟩ : ∃ W1, (W.alloc (.deferred (some []))).alloc (.loop { state := .ready, pending := none, fn, tmps := a.tmps, params := ps, assign, body, defers := W.heap.size }) = W1 := ⟨_, rfl⟩
 have hc := hcall fn
 rw [hW1] at hc
 refine ⟨W.heap.size + 1, [{ target := .collected W.heap.size, args := #[] }], W1, { target := .fn (.func 110) #[ptr], args := #[.func (.yield (W.heap.size + 1)) #[] #[]] }, W1, 110, #[.func (.yield (W.heap.size + 1)) #[] #[], ptr], W1, ?_, ?_, fun _ _ => trivial, ?_, fun h => (by cases h), hc⟩
 · rw [← hW1]; exact run_enterLoop_outer _ _ _ _ _
 · simp only [resolve, hg]
   simp [go_sem]
 · have he := enters_of (P := Tryz.prog) Tryz.func110 (by kernel_rfl) rfl
   simp [invoke, go_sem, he]
theorem below_put {n : Nat} {w W : World} {l : Nat} {o : Obj} (h : Below n w W) (hl : n ≤ l) : Below n w (W.putObj l o) :=
 h.trans ⟨rfl, rfl, rfl, by simp, fun k hk => World.putObj_heap_other (by omega)⟩
theorem push7 (h : Array Obj) (a b c d e f g : Obj) :
  let H := ((((((h.push a).push b).push c).push d).push e).push f).push g
  H[h.size]? = some a ∧ H[h.size + 1]? = some b ∧ H[h.size + 2]? = some c ∧ H[h.size + 3]? = some d ∧ H[h.size + 4]? = some e ∧ H[h.size + 5]? = some f ∧ H[h.size + 6]? = some g := by
 simp only [Array.getElem?_push, Array.size_push]
 refine ⟨?_, ?_, ?_, ?_, ?_, ?_, ?_⟩ <;> repeat (first | rw [if_pos trivial] | rw [if_neg (by omega)] | rw [if_pos (by omega)])
def Stop (w0 : World) (s : ByteArray) (r : Loop) (W : World) : Prop :=
 Below w0.heap.size w0 W ∧ W.heap[w0.heap.size]? = some (.cells #[.bool false, .slice none 0 0, .bool false] 70 (0, 0)) ∧ W.heap[w0.heap.size + 1]? = some (.cells #[.int .i64 10] 32 (0, 0)) ∧
 W.heap[w0.heap.size + 5]? = some (.deferred (some [])) ∧ W.heap[w0.heap.size + 6]? = some (.loop { r with state := .done, pending := some .ret }) ∧ (∃ x ∈ parts s.data.toList, 14 < x.length)
def Short (xs : List ByteArray) : Prop := ∀ x ∈ xs, x.size ≤ 14
def roundR (w0 : World) (s : ByteArray) (abs dir : Bool) (r : Loop) (pre : List ByteArray) (x : ByteArray) (W : World) (e : Ending) (W' : World) : Prop :=
 (e = .returned (.bool true) ∧ (SI w0 abs dir (.loop r) (pre ++ [x]) W' ∧ Short (pre ++ [x])) ∧ W'.heap[w0.heap.size + 4]? = W.heap[w0.heap.size + 4]?) ∨ (e = .returned (.bool false) ∧ Stop w0 s r W')
theorem iter_calls (w0 : World) (s : ByteArray) (hs : s.size ≤ 128) (abs dir : Bool) (r : Loop) (hp : r.params.size = 1) (W : World) (h : SI w0 abs dir (.loop r) [] ((W.alloc (.deferred (some []))).alloc (.loop r)))
  (hc : ((W.alloc (.deferred (some []))).alloc (.loop r)).heap[w0.heap.size + 4]? = some (.cells #[.string s] 9 (0, 0)))
  (hR : ∀ pre x W, SI w0 abs dir (.loop r) pre W → Short pre → x.data.toList ∈ parts s.data.toList → x.size ≤ 128 → pre.length < 128 →
    RoundIn Fence.wide 1 Tryz.prog (w0.heap.size + 6) r.fn ((r.params.zip #[.string x]).foldl (fun t (p, v) => t.setIfInBounds p v) r.tmps) r.assign r.body W (roundR w0 s abs dir r pre x W)) :
  CallsIn Fence.wide 2 Tryz.prog 110 #[.func (.yield (w0.heap.size + 6)) #[] #[], .pointer (some ⟨w0.heap.size + 4, 0, none⟩)] ((W.alloc (.deferred (some []))).alloc (.loop r)) fun e W' => (∃ v, e = .returned v) ∧
   ((∃ xs, xs.map (fun x : ByteArray => x.data.toList) = parts s.data.toList ∧ SI w0 abs dir (.loop r) xs W' ∧ Short xs) ∨ Stop w0 s r W') := by
 refine names_in 2 (w0.heap.size + 6) (w0.heap.size + 4) s (fun xs W => SI w0 abs dir (.loop r) xs W ∧ Short xs) (Stop w0 s r) (by omega) ?_ (fun pre W v hh => ⟨hh.1.setOwn v, hh.2⟩) (fun pre W q hh => ⟨hh.1.drewN q, hh.2⟩) _ (heap_cell hc 0) (heap_free hc 0) ⟨h, fun x hx => by cases hx⟩
 intro pre x W hh hx hsz hlen
 exact ⟨r.fn, _, r.assign, r.body, run_yield hh.1.loop (by rw [hp]; rfl), hR pre x W hh.1 hh.2 hx (by omega) (by omega)⟩
theorem short_app {pre : List ByteArray} {x : ByteArray} (h : Short pre) (hx : ¬ 14 < x.size) : Short (pre ++ [x]) := fun y hy => by
 rcases List.mem_append.1 hy with h1 | h1
 · exact h y h1
 · have : y = x := by simpa using h1
   rw [this]; omega
theorem begin_round {w0 W : World} {abs dir : Bool} {r : Loop} {pre : List ByteArray} (h : SI w0 abs dir (.loop r) pre W) (hr : r.state = .ready) {K : World → Prop}
  (hK : ∀ W3, SI w0 abs dir (.loop { r with state := .busy }) pre W3 → W3.heap[w0.heap.size + 4]? = W.heap[w0.heap.size + 4]? → K W3) : ∃ w₂, (Instr.beginRound (w0.heap.size + 6)).run Tryz.prog W = .ok () w₂ ∧ K w₂ :=
 ⟨_, run_beginRound h.loop hr, hK _ (h.put _) (World.putObj_heap_other (by omega))⟩
theorem set_same {w : World} {b i : Nat} {C : Array Value} {T : TypeId} {f : Nat × Nat} (h : w.heap[b]? = some (.cells C T f)) (v : Value) : (w.setCell ⟨b, i, none⟩ v).heap[b]? = some (.cells (C.setIfInBounds i v) T f) := by
 simp [World.setCell, Array.getElem?_modify, h]
theorem set_other {w : World} {b c i : Nat} {o : Obj} (h : w.heap[c]? = some o) (v : Value) (hne : c ≠ b) : (w.setCell ⟨b, i, none⟩ v).heap[c]? = some o := by
 rw [Below.heap_setCell _ _ _ _ hne]; exact h
theorem SI.stopped {w0 W2 W : World} {s : ByteArray} {abs dir : Bool} {r : Loop} {pre : List ByteArray} {x : ByteArray} (h : SI w0 abs dir (.loop { r with state := .busy }) pre W) (hx : x.data.toList ∈ parts s.data.toList) (hl : 14 < x.size) :
  ∃ v w', (Instr.endRound (w0.heap.size + 6) (some .ret)).run Tryz.prog ((((W.setCell ⟨w0.heap.size, 0, none⟩ (.bool false)).setCell ⟨w0.heap.size, 1, none⟩ (.slice none 0 0)).setCell ⟨w0.heap.size, 2, none⟩ (.bool false)).setCell ⟨w0.heap.size + 1, 0, none⟩ (.int .i64 10)) = .ok v w' ∧ roundR w0 s abs dir r pre x W2 (.returned v) w' := by
 obtain ⟨W5, hW5⟩ : ∃ W5, ((((W.setCell ⟨w0.heap.size, 0, none⟩ (.bool false)).setCell ⟨w0.heap.size, 1, none⟩ (.slice none 0 0)).setCell ⟨w0.heap.size, 2, none⟩ (.bool false)).setCell ⟨w0.heap.size + 1, 0, none⟩ (.int .i64 10)) = W5 := ⟨_, rfl⟩
 have b5 : Below w0.heap.size W W5 := by rw [← hW5]; exact ((((Below.refl _ _).setCell (by simp) _).setCell (by simp) _).setCell (by simp) _).setCell (by simp) _
 have r5 : W5.heap[w0.heap.size]? = some (.cells #[.bool false, .slice none 0 0, .bool false] 70 (0, 0)) := by
  rw [← hW5]; exact set_other (set_same (set_same (set_same h.res _) _) _) _ (by omega)
 have e5 : W5.heap[w0.heap.size + 1]? = some (.cells #[.int .i64 10] 32 (0, 0)) := by
  rw [← hW5]; exact set_same (set_other (set_other (set_other h.err _ (by omega)) _ (by omega)) _ (by omega)) _
 have d5 : W5.heap[w0.heap.size + 5]? = some (.deferred (some [])) := by
  rw [← hW5]; exact set_other (set_other (set_other (set_other h.dfr _ (by omega)) _ (by omega)) _ (by omega)) _ (by omega)
 have l5 : W5.heap[w0.heap.size + 6]? = some (.loop { r with state := .busy }) := by
  rw [← hW5]; exact set_other (set_other (set_other (set_other h.loop _ (by omega)) _ (by omega)) _ (by omega)) _ (by omega)
 rw [hW5]
 refine ⟨_, _, run_endRound (some .ret) l5, .inr ⟨rfl, h.below.trans (b5.trans ⟨rfl, rfl, rfl, by simp, fun k hk => World.putObj_heap_other (by omega)⟩), (World.putObj_heap_other (by omega)).trans r5, (World.putObj_heap_other (by omega)).trans e5, (World.putObj_heap_other (by omega)).trans d5, ?_, x.data.toList, hx, by rw [sz]; exact hl⟩⟩
 exact World.putObj_heap_same (by obtain ⟨h1, _⟩ := Array.getElem?_eq_some_iff.1 l5; exact h1)
theorem SI.goes {w0 W2 W : World} {s : ByteArray} {abs dir : Bool} {r : Loop} {pre : List ByteArray} {x : ByteArray} (h : SI w0 abs dir (.loop { r with state := .busy }) (pre ++ [x]) W) (hr : r.state = .ready) (hp : r.pending = none) (hsh : Short (pre ++ [x])) (hb : W.heap[w0.heap.size + 4]? = W2.heap[w0.heap.size + 4]?) :
  ∃ v w', (Instr.endRound (w0.heap.size + 6) none).run Tryz.prog W = .ok v w' ∧ roundR w0 s abs dir r pre x W2 (.returned v) w' := by
 refine ⟨_, _, run_endRound none h.loop, .inl ⟨rfl, ⟨?_, hsh⟩, (World.putObj_heap_other (by omega)).trans hb⟩⟩
 have := h.put (.loop r)
 obtain ⟨st, pe, f1, f2, f3, f4, f5, f6⟩ := r
 simp only at hr hp
 subst hr hp
 exact this
theorem SI.lastSet {w0 W : World} {abs dir : Bool} {lp : Obj} {pre : List ByteArray} {x : ByteArray} (h : SI w0 abs dir lp pre W) (hk : kept (pre ++ [x]) = kept pre) : SI w0 abs dir lp (pre ++ [x]) (W.setCell ⟨w0.heap.size + 3, 0, none⟩ (.string x)) where
 below := h.below.setCell (by simp) _
 res := set_other h.res _ (by omega)
 err := set_other h.err _ (by omega)
 p := by
  obtain ⟨v, h1, h2⟩ := h.p
  rw [hk]
  exact ⟨v, set_other h1 _ (by omega), own_same h2 (fun g o hg ho => set_other ho _ (by omega))⟩
 last := by rw [last_app]; exact set_same h.last _
 dfr := set_other h.dfr _ (by omega)
 loop := set_other h.loop _ (by omega)
 size := by simpa [World.setCell] using h.size
theorem SI.own2 {w0 W : World} {v : Value} {k : Nat} {xs : List Value} (h2 : W.ownsRow (w0.heap.size + 7) 9 1 v k xs) (x : ByteArray) : (W.setCell ⟨w0.heap.size + 3, 0, none⟩ (.string x)).ownsRow (w0.heap.size + 7) 9 1 v k xs :=
 own_same h2 (fun g o hg ho => set_other ho _ (by omega))
theorem cell_one_set (W : World) (a : Addr) (u x : Value) : ∀ j y, [x][j]? = some y → ((W.setCell a u).alloc (.cells #[x] 9)).cell? ((⟨W.heap.size, 0, none⟩ : Addr).add j) = some y := by
 intro j y hj
 have h := cell_one_new (W.setCell a u) x 9 j y hj
 have e : (W.setCell a u).heap.size = W.heap.size := by simp [World.setCell]
 rw [e] at h; exact h
theorem SI.appended {w0 W w1 : World} {abs dir : Bool} {lp : Obj} {pre : List ByteArray} {x : ByteArray} {v v' : Value} (h : SI w0 abs dir lp pre W) (hk : kept (pre ++ [x]) = kept pre ++ [x])
  (hp : W.heap[w0.heap.size + 2]? = some (.cells #[.bool abs, v, .bool dir] 70 (0, 0))) (hv : ∀ k, v.ownBlock = some k → w0.heap.size + 7 ≤ k)
  (hg : ((W.setCell ⟨w0.heap.size + 3, 0, none⟩ (.string x)).alloc (.cells #[.string x] 9)).grownBy w1 v.ownBlock)
  (ho : w1.ownsRow (w0.heap.size + 7) 9 1 v' ((kept pre).length + 1) ((kept pre).map .string ++ [.string x])) :
  SI w0 abs dir lp (pre ++ [x]) (w1.setCell ⟨w0.heap.size + 2, 1, none⟩ v') ∧ (w1.setCell ⟨w0.heap.size + 2, 1, none⟩ v').heap[w0.heap.size + 4]? = W.heap[w0.heap.size + 4]? := by
 have hz := h.size
 have hsz : ((W.setCell ⟨w0.heap.size + 3, 0, none⟩ (.string x)).alloc (.cells #[.string x] 9)).heap.size = W.heap.size + 1 := by simp [World.setCell]
 have e3 : (W.setCell ⟨w0.heap.size + 3, 0, none⟩ (.string x)).heap.size = W.heap.size := by simp [World.setCell]
 have old : ∀ k, k < w0.heap.size + 7 → w1.heap[k]? = (W.setCell ⟨w0.heap.size + 3, 0, none⟩ (.string x)).heap[k]? := fun k hk => by
  rw [hg.block k (by rw [hsz]; omega) (fun e => by have := hv k e.symm; omega), Below.heap_alloc _ _ _ (by rw [e3]; omega)]
 have keep : ∀ k o, k < w0.heap.size + 7 → k ≠ w0.heap.size + 3 → W.heap[k]? = some o → w1.heap[k]? = some o := fun k o hk h3 ho => by
  rw [old k hk]; exact set_other ho _ h3
 have hb1 : Below w0.heap.size W w1 := ⟨hg.os, hg.tape, hg.output, by have := hg.size; rw [hsz] at this; omega, fun k hk => by rw [old k (by omega)]; exact Below.heap_setCell _ _ _ _ (by simp; omega)⟩
 refine ⟨⟨h.below.trans (hb1.setCell (by simp) _), set_other (keep _ _ (by omega) (by omega) h.res) _ (by omega), set_other (keep _ _ (by omega) (by omega) h.err) _ (by omega), ?_, ?_, set_other (keep _ _ (by omega) (by omega) h.dfr) _ (by omega), set_other (keep _ _ (by omega) (by omega) h.loop) _ (by omega), ?_⟩, ?_⟩
 · refine ⟨v', set_same (keep _ _ (by omega) (by omega) hp) _, ?_⟩
   rw [hk]
   have h9 : w1.ownsRow (w0.heap.size + 7) 9 1 v' (kept pre ++ [x]).length ((kept pre ++ [x]).map .string) := by simpa using ho
   exact own_same h9 (fun g o hg ho => set_other ho _ (by omega))
 · rw [last_app]
   refine set_other ?_ _ (by omega)
   rw [old _ (by omega)]; exact set_same h.last _
 · have := hg.size; rw [hsz] at this
   simp [World.setCell]; omega
 · rw [Below.heap_setCell _ _ _ _ (by simp), old _ (by omega)]
   exact Below.heap_setCell _ _ _ _ (by simp)
theorem p_kept {w0 W w1 : World} {abs dir : Bool} {v : Value} {x : ByteArray} (hp : W.heap[w0.heap.size + 2]? = some (.cells #[.bool abs, v, .bool dir] 70 (0, 0))) (hz : w0.heap.size + 7 ≤ W.heap.size) (hv : ∀ k, v.ownBlock = some k → w0.heap.size + 7 ≤ k)
  (hg : ((W.setCell ⟨w0.heap.size + 3, 0, none⟩ (.string x)).alloc (.cells #[.string x] 9)).grownBy w1 v.ownBlock) :
  w1.cell? ⟨w0.heap.size + 1 + 1, 1, none⟩ = some v ∧ w1.frozen? ⟨w0.heap.size + 1 + 1, 1, none⟩ = false := by
 have e3 : (W.setCell ⟨w0.heap.size + 3, 0, none⟩ (.string x)).heap.size = W.heap.size := by simp [World.setCell]
 have h1 : w1.heap[w0.heap.size + 2]? = some (.cells #[.bool abs, v, .bool dir] 70 (0, 0)) := by
  rw [hg.block _ (by simp [World.setCell]; omega) (fun e => by have := hv _ e.symm; omega), Below.heap_alloc _ _ _ (by rw [e3]; omega)]
  exact set_other hp _ (by omega)
 exact ⟨heap_cell h1 1, heap_free h1 1⟩
theorem end_loop {w0 W : World} {abs dir : Bool} {r : Loop} {xs : List ByteArray} (h : SI w0 abs dir (.loop r) xs W) (hr : r.state = .ready) (hp : r.pending = none) {K : Option Code → World → Prop}
  (hK : ∀ W4, SI w0 abs dir (.loop { r with state := .exhausted }) xs W4 → K none W4) : ∃ jump w₄, (Instr.endLoop (w0.heap.size + 6)).run Tryz.prog W = .ok jump w₄ ∧ K jump w₄ :=
 ⟨none, _, (run_endLoop h.loop (by rw [hr]; simp)).trans (by rw [hp]), hK _ (h.put _)⟩
theorem last_parts {xs : List ByteArray} {l : List Bytes} (h : xs.map (fun x : ByteArray => x.data.toList) = l) : l.getLast?.getD [] = (lastOf xs).data.toList := by
 rw [← h, List.getLast?_map, lastOf]
 cases xs.getLast? <;> rfl
theorem kept_parts {xs : List ByteArray} {l : List Bytes} (h : xs.map (fun x : ByteArray => x.data.toList) = l) : l.filter (fun x => decide (¬ x = [46])) = (kept xs).map (fun x : ByteArray => x.data.toList) := by
 rw [← h, kept, List.filter_map]; rfl
theorem short_parts {xs : List ByteArray} {l : List Bytes} (h : xs.map (fun x : ByteArray => x.data.toList) = l) (hs : Short xs) : ¬ ∃ x ∈ l, 14 < x.length := by
 rintro ⟨x, hx, hl⟩
 rw [← h] at hx
 obtain ⟨y, hy, rfl⟩ := List.mem_map.1 hx
 have := hs y hy
 rw [sz] at hl; omega
theorem plain_okb (l : Bytes) : plainB l = l.all okb := rfl
theorem split_ok {s : ByteArray} (h0 : ¬ s.data.toList = []) (hs : s.size ≤ 128) {xs : List ByteArray} (h : xs.map (fun x : ByteArray => x.data.toList) = parts s.data.toList) (hsh : Short xs) (hp : plainB s.data.toList = true) :
  splitS s.data.toList = (Lib.hasPrefix s.data.toList [47], Lib.hasSuffix s.data.toList [47] || (((lastOf xs).data.toList == [46]) || ((lastOf xs).data.toList == [46, 46])), (kept xs).map (fun x : ByteArray => x.data.toList), 0) := by
 have e1 : ¬ (128 < s.data.toList.length ∨ ∃ x ∈ parts s.data.toList, 14 < x.length) := by
  rintro (h1 | h1)
  · rw [sz] at h1; omega
  · exact short_parts h hsh h1
 rw [splitS, if_neg h0, if_neg e1, if_neg (by rw [← plain_okb, hp]; simp), last_parts h, kept_parts h]
theorem split_bad {s : ByteArray} (h0 : ¬ s.data.toList = []) (hs : s.size ≤ 128) {xs : List ByteArray} (h : xs.map (fun x : ByteArray => x.data.toList) = parts s.data.toList) (hsh : Short xs) (hp : plainB s.data.toList = false) :
  splitS s.data.toList = (false, false, [], 1) := by
 have e1 : ¬ (128 < s.data.toList.length ∨ ∃ x ∈ parts s.data.toList, 14 < x.length) := by
  rintro (h1 | h1)
  · rw [sz] at h1; omega
  · exact short_parts h hsh h1
 rw [splitS, if_neg h0, if_neg e1, if_pos (by rw [← plain_okb, hp])]
theorem split_long {b : Bytes} (h0 : ¬ b = []) (h : 128 < b.length ∨ ∃ x ∈ parts b, 14 < x.length) : splitS b = (false, false, [], 10) := by
 rw [splitS, if_neg h0, if_pos h]
theorem leave12 {T : Array Value} {W5 : World} (n0 : Nat) {A D : Bool} {V : Value} {E : Int} (hT2 : T[2]? = some (.pointer (some ⟨n0, 0, none⟩))) (hT3 : T[3]? = some (.pointer (some ⟨n0 + 1, 0, none⟩)))
  (hres : W5.heap[n0]? = some (.cells #[.bool A, V, .bool D] 70 (0, 0))) (herr : W5.heap[n0 + 1]? = some (.cells #[.int .i64 E] 32 (0, 0))) (hdfr : W5.heap[n0 + 5]? = some (.deferred (some []))) {R : Ending → World → Prop}
  (hV : ∃ a n c, V = .slice a n c)
  (hR : R (.returned (.tuple #[.agg #[.bool A, V, .bool D], .int .i64 E])) (W5.putObj (n0 + 5) (.deferred none))) :
  bodyPostM Fence.wide 3 Tryz.prog Tryz.f32 R .ret { tmps := T, defers := [{ target := .collected (n0 + 5), args := #[] }] } W5 := by
 obtain ⟨a, n, c, rfl⟩ := hV
 refine ⟨by simp, .inl ⟨_, _, rfl, run_takeDeferred hdfr, ?_⟩⟩
 obtain ⟨W6, hW6⟩ : ∃ W6, W5.putObj (n0 + 5) (.deferred none) = W6 := ⟨_, rfl⟩
 have h0 : W6.heap[n0]? = some (.cells #[.bool A, .slice a n c, .bool D] 70 (0, 0)) := by rw [← hW6]; exact (World.putObj_heap_other (by omega)).trans hres
 have h1 : W6.heap[n0 + 1]? = some (.cells #[.int .i64 E] 32 (0, 0)) := by rw [← hW6]; exact (World.putObj_heap_other (by omega)).trans herr
 rw [hW6] at hR ⊢
 have c0 : W6.cell? ⟨n0, 0, none⟩ = some (.bool A) := heap_cell h0 0
 have c1 : W6.cell? ⟨n0, 1, none⟩ = some (.slice a n c) := heap_cell h0 1
 have c2 : W6.cell? ⟨n0, 2, none⟩ = some (.bool D) := heap_cell h0 2
 have c3 : W6.cell? ⟨n0 + 1, 0, none⟩ = some (.int .i64 E) := heap_cell h1 0
 exact ⟨_, by simp [results, Tryz.results32, go_sem, hT2, hT3, c0, c1, c2, c3], hR⟩
theorem own_base {w : World} {b b' n : Nat} {v : Value} {xs : List Value} (h : w.ownsRow b 9 1 v n xs) (hb : b' ≤ b) : w.ownsRow b' 9 1 v n xs := by
 obtain ⟨h1, h2 | ⟨g, cap, cur, h2, h3, rest⟩⟩ := h
 · exact ⟨h1, .inl h2⟩
 · exact ⟨h1, .inr ⟨g, cap, cur, h2, by omega, rest⟩⟩
theorem SI.final {w0 W : World} {s : ByteArray} {abs dir : Bool} {lp : Obj} {xs : List ByteArray} (h : SI w0 abs dir lp xs W) {V : Value} (hV : ∃ a n c, V = .slice a n c) (hown : W.ownsRow (w0.heap.size + 7) 9 1 V (kept xs).length ((kept xs).map .string)) {T : Array Value} (hT2 : T[2]? = some (.pointer (some ⟨w0.heap.size, 0, none⟩))) (hT3 : T[3]? = some (.pointer (some ⟨w0.heap.size + 1, 0, none⟩))) (D : Bool)
  (hs : splitS s.data.toList = (abs, D, (kept xs).map (fun x : ByteArray => x.data.toList), 0)) :
  bodyPostM Fence.wide 3 Tryz.prog Tryz.f32 (splitPost s w0) .ret { tmps := T, defers := [{ target := .collected (w0.heap.size + 5), args := #[] }] }
   (((((W.setCell ⟨w0.heap.size + 2, 2, none⟩ (.bool D)).setCell ⟨w0.heap.size, 0, none⟩ (.bool abs)).setCell ⟨w0.heap.size, 1, none⟩ V).setCell ⟨w0.heap.size, 2, none⟩ (.bool D)).setCell ⟨w0.heap.size + 1, 0, none⟩ (.int .i64 0)) := by
 obtain ⟨W5, hW5⟩ : ∃ W5, (((((W.setCell ⟨w0.heap.size + 2, 2, none⟩ (.bool D)).setCell ⟨w0.heap.size, 0, none⟩ (.bool abs)).setCell ⟨w0.heap.size, 1, none⟩ V).setCell ⟨w0.heap.size, 2, none⟩ (.bool D)).setCell ⟨w0.heap.size + 1, 0, none⟩ (.int .i64 0)) = W5 := ⟨_, rfl⟩
 have other : ∀ g o, g ≠ w0.heap.size → g ≠ w0.heap.size + 1 → g ≠ w0.heap.size + 2 → W.heap[g]? = some o → W5.heap[g]? = some o := fun g o n0 n1 n2 ho => by
  rw [← hW5]; exact set_other (set_other (set_other (set_other (set_other ho _ n2) _ n0) _ n0) _ n0) _ n1
 have b5 : Below w0.heap.size W W5 := by rw [← hW5]; exact (((((Below.refl _ _).setCell (by simp) _).setCell (by simp) _).setCell (by simp) _).setCell (by simp) _).setCell (by simp) _
 have r5 : W5.heap[w0.heap.size]? = some (.cells #[.bool abs, V, .bool D] 70 (0, 0)) := by
  rw [← hW5]; exact set_other (set_same (set_same (set_same (set_other h.res _ (by omega)) _) _) _) _ (by omega)
 have e5 : W5.heap[w0.heap.size + 1]? = some (.cells #[.int .i64 0] 32 (0, 0)) := by
  rw [← hW5]; exact set_same (set_other (set_other (set_other (set_other h.err _ (by omega)) _ (by omega)) _ (by omega)) _ (by omega)) _
 rw [hW5]
 refine leave12 w0.heap.size hT2 hT3 r5 e5 (other _ _ (by omega) (by omega) (by omega) h.dfr) hV ⟨abs, D, V, kept xs, 0, rfl, ?_, h.below.trans (b5.trans ⟨rfl, rfl, rfl, by simp, fun k hk => World.putObj_heap_other (by omega)⟩), hs⟩
 exact own_base (own_same hown (fun g o hg ho => (World.putObj_heap_other (by omega)).trans (other g o (by omega) (by omega) (by omega) ho))) (by omega)
theorem SI.failed {w0 W : World} {s : ByteArray} {abs dir : Bool} {lp : Obj} {xs : List ByteArray} (h : SI w0 abs dir lp xs W) {T : Array Value} (hT2 : T[2]? = some (.pointer (some ⟨w0.heap.size, 0, none⟩))) (hT3 : T[3]? = some (.pointer (some ⟨w0.heap.size + 1, 0, none⟩)))
  (hs : splitS s.data.toList = (false, false, [], 1)) :
  bodyPostM Fence.wide 3 Tryz.prog Tryz.f32 (splitPost s w0) .ret { tmps := T, defers := [{ target := .collected (w0.heap.size + 5), args := #[] }] }
   ((((W.setCell ⟨w0.heap.size, 0, none⟩ (.bool false)).setCell ⟨w0.heap.size, 1, none⟩ (.slice none 0 0)).setCell ⟨w0.heap.size, 2, none⟩ (.bool false)).setCell ⟨w0.heap.size + 1, 0, none⟩ (.int .i64 1)) := by
 obtain ⟨W5, hW5⟩ : ∃ W5, ((((W.setCell ⟨w0.heap.size, 0, none⟩ (.bool false)).setCell ⟨w0.heap.size, 1, none⟩ (.slice none 0 0)).setCell ⟨w0.heap.size, 2, none⟩ (.bool false)).setCell ⟨w0.heap.size + 1, 0, none⟩ (.int .i64 1)) = W5 := ⟨_, rfl⟩
 have b5 : Below w0.heap.size W W5 := by rw [← hW5]; exact ((((Below.refl _ _).setCell (by simp) _).setCell (by simp) _).setCell (by simp) _).setCell (by simp) _
 have r5 : W5.heap[w0.heap.size]? = some (.cells #[.bool false, .slice none 0 0, .bool false] 70 (0, 0)) := by
  rw [← hW5]; exact set_other (set_same (set_same (set_same h.res _) _) _) _ (by omega)
 have e5 : W5.heap[w0.heap.size + 1]? = some (.cells #[.int .i64 1] 32 (0, 0)) := by
  rw [← hW5]; exact set_same (set_other (set_other (set_other h.err _ (by omega)) _ (by omega)) _ (by omega)) _
 have d5 : W5.heap[w0.heap.size + 5]? = some (.deferred (some [])) := by
  rw [← hW5]; exact set_other (set_other (set_other (set_other h.dfr _ (by omega)) _ (by omega)) _ (by omega)) _ (by omega)
 rw [hW5]
 exact leave12 w0.heap.size hT2 hT3 r5 e5 d5 ⟨none, 0, 0, rfl⟩ ⟨false, false, .slice none 0 0, [], 1, rfl, ⟨rfl, .inl ⟨rfl, rfl⟩⟩, h.below.trans (b5.trans ⟨rfl, rfl, rfl, by simp, fun k hk => World.putObj_heap_other (by omega)⟩), hs⟩
theorem split_main (s : ByteArray) (w : World) (h0 : ¬ s.data.toList = []) (hs : s.size ≤ 128) : Calls Tryz.prog 32 #[.string s] w (splitPost s w) := by
 refine (callsIn_wide (n := 3)).1 (callsIn_of_wp_marks Tryz.func32 rfl trivial ?_ rfl)
 simp only [Tryz.ntmps32, List.size_toArray, List.length_cons, List.length_nil, Nat.reduceAdd, Nat.reduceSub, Array.replicate_succ, Array.replicate_zero, List.push_toArray, List.append_toArray, List.nil_append, List.cons_append]
 have h1 : s.toList.isEmpty = false := by rw [toList_data]; cases hh : s.data.toList with | nil => exact absurd hh h0 | cons => rfl
 have hs1 : (s.size : Int) ≤ 128 := by omega
 have H0 := Hd h0
 obtain ⟨i0, hi, hz0, hz1, hz2⟩ := info_parts info9
 clear h0
 gi_wp2_with fail
 refine ⟨trivial, ?_⟩
 refine (callsIn_wide.2 (Tryz.strings_HasPrefix _ _ _)).mono ?_
 rintro e w' ⟨rfl, rfl⟩
 gi_wp2_with fail
 refine ⟨trivial, ?_⟩
 refine (callsIn_wide.2 (Tryz.strings_HasSuffix _ _ _ (by omega))).mono ?_
 rintro e w' ⟨rfl, rfl⟩
 gi_wp2_with fail
 refine ⟨trivial, ?_⟩
 refine (callsIn_wide.2 (mk_names _ _)).mono ?_
 rintro e w' ⟨rfl, rfl⟩
 gi_wp2_with fail
 obtain ⟨W, hW⟩ : ∃ W, (((((w.alloc (.cells #[.bool false, .slice none 0 0, .bool false] 70)).alloc (.cells #[.int .i64 0] 32)).alloc (.cells #[.bool (Lib.hasPrefix s.data.toList [47]), .slice none 0 0, .bool (Lib.hasSuffix s.data.toList [47])] 70)).alloc (.cells #[.string ⟨#[]⟩] 9)).alloc (.cells #[.string s] 9)) = W := ⟨_, rfl⟩
 have hWs : W.heap.size = w.heap.size + 5 := by rw [← hW]; simp
 rw [hW]
 refine range_names W (.pointer (some ⟨w.heap.size + 4, 0, none⟩)) rfl (fun fn => ?_)
 rw [hWs]
 refine (iter_calls w s hs (Lib.hasPrefix s.data.toList [47]) (Lib.hasSuffix s.data.toList [47]) _ ?_ _ ?_ ?_ ?_).mono ?_
 rotate_left
 · rw [← hW]
   have h7 := push7 w.heap
   refine ⟨(((((((Below.refl _ _).alloc (Nat.le_refl _) _).alloc (by simp) _).alloc (by simp; omega) _).alloc (by simp; omega) _).alloc (by simp; omega) _).alloc (by simp; omega) _).alloc (by simp; omega) _, ?_, ?_, ⟨.slice none 0 0, ?_, ⟨rfl, .inl ⟨rfl, rfl⟩⟩⟩, ?_, ?_, ?_, by simp⟩
   · exact (h7 _ _ _ _ _ _ _).1
   · exact (h7 _ _ _ _ _ _ _).2.1
   · exact (h7 _ _ _ _ _ _ _).2.2.1
   · exact (h7 _ _ _ _ _ _ _).2.2.2.1
   · exact (h7 _ _ _ _ _ _ _).2.2.2.2.2.1
   · exact (h7 _ _ _ _ _ _ _).2.2.2.2.2.2
 · rw [← hW]
   exact (push7 w.heap _ _ _ _ _ _ _).2.2.2.2.1
 · intro pre x W2 hSI hsh hx hx1 hlen
   refine roundIn_of_wpIn trivial ?_
   dsimp only
   gi_wp2
   refine begin_round hSI rfl (fun W3 hS3 hb3 => ?_)
   obtain ⟨v, hpv, hown⟩ := hS3.p
   have r0 : W3.cell? ⟨w.heap.size, 0, none⟩ = some (.bool false) := heap_cell hS3.res 0
   have r1 : W3.cell? ⟨w.heap.size, 1, none⟩ = some (.slice none 0 0) := heap_cell hS3.res 1
   have r2 : W3.cell? ⟨w.heap.size, 2, none⟩ = some (.bool false) := heap_cell hS3.res 2
   have rf : ∀ i, W3.frozen? ⟨w.heap.size, i, none⟩ = false := heap_free hS3.res
   have e0 : W3.cell? ⟨w.heap.size + 1, 0, none⟩ = some (.int .i64 0) := heap_cell hS3.err 0
   have ef : W3.frozen? ⟨w.heap.size + 1, 0, none⟩ = false := heap_free hS3.err 0
   have p1 : W3.cell? ⟨w.heap.size + 1 + 1, 1, none⟩ = some v := heap_cell hpv 1
   have pf : W3.frozen? ⟨w.heap.size + 1 + 1, 1, none⟩ = false := heap_free hpv 1
   have l0 : W3.cell? ⟨w.heap.size + 1 + 1 + 1, 0, none⟩ = some (.string (lastOf pre)) := heap_cell hS3.last 0
   have lf : W3.frozen? ⟨w.heap.size + 1 + 1 + 1, 0, none⟩ = false := heap_free hS3.last 0
   have HS := Hd hS3
   have HO := Hd hown
   have HPV := Hd hpv
   have HB3 := Hd hb3
   have HX := Hd hx
   have HSH := Hd hsh
   clear hS3 hown hpv hb3 hx hSI hsh
   by_cases hl : 14 < x.size
   · have hl1 : (14 : Int) < x.size := by omega
     gi_wp2
     exact HS.out.stopped HX.out hl
   · have hl1 : ¬ (14 : Int) < x.size := by omega
     by_cases hd : x.data.toList = [46]
     · have hd1 : x.toList = [46] := by rw [toList_data]; exact hd
       have HD := Hd hd
       clear hd
       gi_wp2
       exact (HS.out.lastSet (kept_no pre x HD.out)).goes rfl rfl (short_app HSH.out hl) ((Below.heap_setCell _ _ _ _ (by simp)).trans HB3.out)
     · have hd1 : (x.toList == [46]) = false := by rw [toList_data]; simpa using hd
       have HD := Hd hd
       clear hd
       have hkl := kept_len pre
       have HO2 := Hd (SI.own2 HO.out x)
       gi_wp2_with (gi_at_builtin; refine wpListIn_append_own _ rfl _ _ 52 rfl (w.heap.size + 7) 9 i0 (.string ByteArray.empty) 1 16 Tryz.underlying52 hi hz0 hz1 hz2 rfl (by decide) _ _ _ rfl (HO2.out.alloc _) ⟨W3.heap.size, 0, none⟩ 1 1 [.string x] rfl rfl (cell_one_set _ _ _ _) (by simp [Value.oneCell']) (by unfold maxLen; omega) (by omega) (by have := HS.out.size; simp; omega) ?_; intro v' w1 hown' hgrow _; obtain ⟨g', cap', rfl⟩ := ownsRow_succ hown'; have hq := p_kept HPV.out HS.out.size (own_ge HO.out) hgrow; have q1 := hq.1; have qf := hq.2; clear hq)
       obtain ⟨ha, hb⟩ := HS.out.appended (kept_yes pre x HD.out) HPV.out (own_ge HO.out) hgrow hown'
       exact ha.goes rfl rfl (short_app HSH.out hl) (hb.trans HB3.out)
 · rintro e W2 ⟨⟨v0, rfl⟩, (⟨xs, hxs, hSI, hsh⟩ | hstop)⟩
   · refine end_loop hSI rfl rfl (fun W4 hS4 => ?_)
     have HXS := Hd hxs
     have HSH := Hd hsh
     clear hxs hsh hSI W2 hW
     obtain ⟨v, hpv, hown⟩ := hS4.p
     obtain ⟨sa, sl, sc, rfl⟩ : ∃ a n c, v = .slice a n c := by
      obtain ⟨_, ⟨h2, _⟩ | ⟨g, cap, cur, h2, _⟩⟩ := hown
      · exact ⟨_, _, _, h2⟩
      · exact ⟨_, _, _, h2⟩
     have r0 : W4.cell? ⟨w.heap.size, 0, none⟩ = some (.bool false) := heap_cell hS4.res 0
     have r1 : W4.cell? ⟨w.heap.size, 1, none⟩ = some (.slice none 0 0) := heap_cell hS4.res 1
     have r2 : W4.cell? ⟨w.heap.size, 2, none⟩ = some (.bool false) := heap_cell hS4.res 2
     have rf : ∀ i, W4.frozen? ⟨w.heap.size, i, none⟩ = false := heap_free hS4.res
     have e0 : W4.cell? ⟨w.heap.size + 1, 0, none⟩ = some (.int .i64 0) := heap_cell hS4.err 0
     have ef : W4.frozen? ⟨w.heap.size + 1, 0, none⟩ = false := heap_free hS4.err 0
     have p0 : W4.cell? ⟨w.heap.size + 1 + 1, 0, none⟩ = some (.bool (Lib.hasPrefix s.data.toList [47])) := heap_cell hpv 0
     have p1 : W4.cell? ⟨w.heap.size + 1 + 1, 1, none⟩ = some (.slice sa sl sc) := heap_cell hpv 1
     have p2 : W4.cell? ⟨w.heap.size + 1 + 1, 2, none⟩ = some (.bool (Lib.hasSuffix s.data.toList [47])) := heap_cell hpv 2
     have pf : ∀ i, W4.frozen? ⟨w.heap.size + 1 + 1, i, none⟩ = false := heap_free hpv
     have l0 : W4.cell? ⟨w.heap.size + 1 + 1 + 1, 0, none⟩ = some (.string (lastOf xs)) := heap_cell hS4.last 0
     have HS := Hd hS4
     have HO := Hd hown
     have HPV := Hd hpv
     clear hS4 hown hpv
     gi_wp2_with fail
     refine ⟨trivial, ?_⟩
     refine (callsIn_wide.2 (plain_any _ _ (by omega))).mono ?_
     rintro e w' ⟨rfl, rfl⟩
     by_cases hp : plainB s.data.toList = true
     · have HF := Hd (split_ok H0.out hs HXS.out HSH.out hp)
       by_cases hd : Lib.hasSuffix s.data.toList [47] = true
       · have HF2 := Hd (HF.out.trans (by rw [hd]; simp : _ = (Lib.hasPrefix s.data.toList [47], true, (kept xs).map (fun x : ByteArray => x.data.toList), (0 : Int))))
         gi_wp2
         exact HS.out.final ⟨_, _, _, rfl⟩ HO.out rfl rfl true HF2.out
       · replace hd : Lib.hasSuffix s.data.toList [47] = false := by simpa using hd
         by_cases hl1 : (lastOf xs).data.toList = [46]
         · have hm1 : (lastOf xs).toList = [46] := by rw [toList_data]; exact hl1
           have HF2 := Hd (HF.out.trans (by rw [hd, hl1]; simp : _ = (Lib.hasPrefix s.data.toList [47], true, (kept xs).map (fun x : ByteArray => x.data.toList), (0 : Int))))
           clear hl1
           gi_wp2
           exact HS.out.final ⟨_, _, _, rfl⟩ HO.out rfl rfl true HF2.out
         · have hm1 : ((lastOf xs).toList == [46]) = false := by rw [toList_data]; simpa using hl1
           by_cases hl2 : (lastOf xs).data.toList = [46, 46]
           · have hm2 : (lastOf xs).toList = [46, 46] := by rw [toList_data]; exact hl2
             have HF2 := Hd (HF.out.trans (by rw [hd, hl2]; simp : _ = (Lib.hasPrefix s.data.toList [47], true, (kept xs).map (fun x : ByteArray => x.data.toList), (0 : Int))))
             clear hl1 hl2
             gi_wp2
             exact HS.out.final ⟨_, _, _, rfl⟩ HO.out rfl rfl true HF2.out
           · have hm2 : ((lastOf xs).toList == [46, 46]) = false := by rw [toList_data]; simpa using hl2
             have HF2 := Hd (HF.out.trans (by rw [hd]; simp [hl1, hl2] : _ = (Lib.hasPrefix s.data.toList [47], false, (kept xs).map (fun x : ByteArray => x.data.toList), (0 : Int))))
             clear hl1 hl2
             gi_wp2
             exact HS.out.final ⟨_, _, _, rfl⟩ HO.out rfl rfl false HF2.out
     · replace hp : plainB s.data.toList = false := by simpa using hp
       have HF := Hd (split_bad H0.out hs HXS.out HSH.out hp)
       gi_wp2
       exact HS.out.failed rfl rfl HF.out
   · obtain ⟨q1, q2, q3, q4, q5, q6⟩ := hstop
     refine ⟨some .ret, _, run_endLoop q5 (by simp), ?_⟩
     have HF := Hd (split_long H0.out (.inr q6))
     gi_wp2
     exact leave12 w.heap.size rfl rfl ((World.putObj_heap_other (by omega)).trans q2) ((World.putObj_heap_other (by omega)).trans q3) ((World.putObj_heap_other (by omega)).trans q4) ⟨none, 0, 0, rfl⟩ ⟨false, false, .slice none 0 0, [], 10, rfl, ⟨rfl, .inl ⟨rfl, rfl⟩⟩, below_put (below_put q1 (by omega)) (by omega), HF.out⟩
 · rfl
end Go.Proofs.YtafonmnfeibaiaaGreat.Pp
namespace Go.Proofs.YtafonmnfeibaiaaGreat.Pp
open Go.RowKit
theorem split_any (s : ByteArray) (w : World) : Calls Tryz.prog 32 #[.string s] w (splitPost s w) := by
 by_cases h0 : s.data.toList = []
 · have h1 : s.toList = [] := by rw [toList_data]; exact h0
   have HF : Hid (splitS s.data.toList = (false, false, [], 3)) := Hd (by rw [splitS, if_pos h0])
   clear h0
   go_enter Tryz.func32, Tryz.ntmps32
   go_wp2
   exact bodyPost_ret (v := .tuple #[.agg #[.bool false, .slice none 0 0, .bool false], .int .i64 3]) (by simp [results, Tryz.results32, go_sem]) rfl ⟨false, false, .slice none 0 0, [], 3, rfl, ⟨rfl, .inl ⟨rfl, rfl⟩⟩, ((Below.refl _ _).alloc (Nat.le_refl _) _).alloc (by simp) _, HF.out⟩
 · by_cases hb : s.size ≤ 128
   · exact split_main s w h0 hb
   · have h1 : s.toList.isEmpty = false := by rw [toList_data]; cases hh : s.data.toList with | nil => exact absurd hh h0 | cons => rfl
     have hb1 : (128 : Int) < s.size := by omega
     have HF : Hid (splitS s.data.toList = (false, false, [], 10)) := Hd (split_long h0 (.inl (by rw [sz]; omega)))
     clear h0
     go_enter Tryz.func32, Tryz.ntmps32
     go_wp2
     exact bodyPost_ret (v := .tuple #[.agg #[.bool false, .slice none 0 0, .bool false], .int .i64 10]) (by simp [results, Tryz.results32, go_sem]) rfl ⟨false, false, .slice none 0 0, [], 10, rfl, ⟨rfl, .inl ⟨rfl, rfl⟩⟩, ((Below.refl _ _).alloc (Nat.le_refl _) _).alloc (by simp) _, HF.out⟩
end Go.Proofs.YtafonmnfeibaiaaGreat.Pp
namespace Go.Proofs.YtafonmnfeibaiaaGreat
open Go.RowKit
structure Cr where
 real : Int
 eff : Int
 saved : Int
 group : Int
 eg : Int
def ask (t : Nat) (cwd : Int) (c : Cr) : Value := .agg #[.pointer (some ⟨t, 0, none⟩), .int .i64 cwd, .int .i64 c.real, .int .i64 c.eff, .int .i64 c.saved, .int .i64 c.group, .int .i64 c.eg]
def infoV (i k m o g l z y : Int) : Value := .agg #[.int .i64 i, .int .i64 k, .int .i64 m, .int .i64 o, .int .i64 g, .int .i64 l, .int .i64 z, .int .i64 y]
theorem wmay_any (t : Nat) (cwd : Int) (c : Cr) (i k m o g l z y want : Int) (w : World) :
  Calls Tryz.prog 39 #[ask t cwd c, infoV i k m o g l z y, .int .i64 want] w fun e w' => e = .returned (.bool (Md.mayS m o g (decide (k = 1)) c.eff c.eg want)) ∧ Below w.heap.size w w' := by
 obtain ⟨real, eff, saved, group, eg⟩ := c
 unfold ask infoV
 go_enter Tryz.func39, Tryz.ntmps39
 go_wp2_with fail
 have e1 : (k == 1) = decide (k = 1) := rfl
 refine (Md.may_any _ _ _ _ _ _ _ _).mono ?_
 rintro e w' ⟨rfl, rfl⟩
 go_wp2
 go_ret
 exact ⟨rfl, ((Below.refl _ _).alloc (Nat.le_refl _) _).alloc (by rw [alloc_size]; omega) _⟩
def mayN (m : IT.Nd) (c : Cr) (want : Int) : Bool := Md.mayS m.mode m.owner m.group (decide (m.kind = 1)) c.eff c.eg want
def entersE (m : IT.Nd) (c : Cr) : Int := if m.kind ≠ 1 then 6 else if mayN m c 1 = false then 4 else 0
def downT (T : IT.Tr) (c : Cr) : Nat → List IT.Bytes → Nat × Int
 | k, [] => (k, 0)
 | k, n :: l => match T k with
   | none => (0, 3)
   | some m => if entersE m c ≠ 0 then (0, entersE m c) else match lookT T k n with
     | none => (0, 3)
     | some j => downT T c j l
def startT (cwd : Int) (abs : Bool) : Nat := if abs then 1 else cwd.toNat
def goT (T : IT.Tr) (c : Cr) (cwd : Int) (abs : Bool) (l : List IT.Bytes) : Nat × Int := if T (startT cwd abs) = none then (0, 3) else downT T c (startT cwd abs) l
def kindT (T : IT.Tr) (k : Nat) : Int := match T k with
 | none => 0
 | some m => m.kind
def findT (T : IT.Tr) (c : Cr) (cwd : Int) (s : IT.Bytes) : Nat × Int :=
 if (Pp.splitS s).2.2.2 ≠ 0 then (0, (Pp.splitS s).2.2.2)
 else if (goT T c cwd (Pp.splitS s).1 (Pp.splitS s).2.2.1).2 ≠ 0 then (0, (goT T c cwd (Pp.splitS s).1 (Pp.splitS s).2.2.1).2)
 else if (Pp.splitS s).2.1 = true ∧ kindT T (goT T c cwd (Pp.splitS s).1 (Pp.splitS s).2.2.1).1 ≠ 1 then (0, 6)
 else ((goT T c cwd (Pp.splitS s).1 (Pp.splitS s).2.2.1).1, 0)
structure Ent where
 dir : Nat
 name : IT.Bytes
 must : Bool
 tg : Option Nat
def entryT (T : IT.Tr) (c : Cr) (cwd : Int) (s : IT.Bytes) : Except Int Ent :=
 if (Pp.splitS s).2.2.2 ≠ 0 then .error (Pp.splitS s).2.2.2
 else if (Pp.splitS s).2.2.1 = [] ∨ (Pp.splitS s).2.2.1.getLast? = some [46, 46] then .error 1
 else if (goT T c cwd (Pp.splitS s).1 (Pp.splitS s).2.2.1.dropLast).2 ≠ 0 then .error (goT T c cwd (Pp.splitS s).1 (Pp.splitS s).2.2.1.dropLast).2
 else match T (goT T c cwd (Pp.splitS s).1 (Pp.splitS s).2.2.1.dropLast).1 with
  | none => .error 3
  | some m => if entersE m c ≠ 0 then .error (entersE m c)
    else .ok ⟨(goT T c cwd (Pp.splitS s).1 (Pp.splitS s).2.2.1.dropLast).1, ((Pp.splitS s).2.2.1.getLast?).getD [], (Pp.splitS s).2.1, lookT T (goT T c cwd (Pp.splitS s).1 (Pp.splitS s).2.2.1.dropLast).1 (((Pp.splitS s).2.2.1.getLast?).getD [])⟩
theorem look_there {T : IT.Tr} (hs : IT.Sound okN T) {k j : Nat} {nm : IT.Bytes} (h : lookT T k nm = some j) : ∃ m, T j = some m := by
 unfold lookT at h
 cases hk : T k with
 | none => rw [hk] at h; cases h
 | some m =>
   rw [hk] at h
   dsimp only at h
   split at h
   · cases h
   · rename_i hkd
     split at h
     · obtain rfl := Option.some.inj h; exact ⟨m, hk⟩
     · split at h
       · obtain rfl := Option.some.inj h
         obtain ⟨rk, hrk⟩ := hs.1.chain
         by_cases hp : m.parent = k
         · exact ⟨m, by rw [hp]; exact hk⟩
         · obtain ⟨_, m2, hm2, _⟩ := hrk k m hk (Decidable.not_not.1 hkd) hp
           exact ⟨m2, hm2⟩
       · exact hs.1.lead k m (nm, j) hk (IT.find_mem h)
theorem down_there {T : IT.Tr} (hs : IT.Sound okN T) (c : Cr) : ∀ (l : List IT.Bytes) (k : Nat), (∃ m, T k = some m) → (downT T c k l).2 = 0 → ∃ m, T (downT T c k l).1 = some m
 | [], k, h, _ => h
 | n :: l, k, ⟨m, hm⟩, h => by
   unfold downT at h ⊢
   rw [hm] at h ⊢
   dsimp only at h ⊢
   split at h
   · rename_i he; exact absurd h he
   · rename_i he
     rw [if_neg he]
     cases hl : lookT T k n with
     | none => rw [hl] at h; cases h
     | some j =>
       rw [hl] at h
       exact down_there hs c l j (look_there hs hl) h
theorem go_there {T : IT.Tr} (hs : IT.Sound okN T) {c : Cr} {cwd : Int} {abs : Bool} {l : List IT.Bytes} (h : (goT T c cwd abs l).2 = 0) : ∃ m, T (goT T c cwd abs l).1 = some m := by
 unfold goT at h ⊢
 by_cases hk : T (startT cwd abs) = none
 · rw [if_pos hk] at h; cases h
 · rw [if_neg hk] at h ⊢
   refine down_there hs c l _ ?_ h
   cases hm : T (startT cwd abs) with
   | none => exact absurd hm hk
   | some m => exact ⟨m, rfl⟩
theorem find_there {T : IT.Tr} (hs : IT.Sound okN T) {c : Cr} {cwd : Int} {s : IT.Bytes} (h : (findT T c cwd s).2 = 0) : ∃ m, T (findT T c cwd s).1 = some m := by
 unfold findT at h ⊢
 split at h
 · rename_i he; exact absurd h he
 · split at h
   · rename_i he; exact absurd h he
   · rename_i h1 h2
     split at h
     · cases h
     · rename_i h3
       rw [if_neg h1, if_neg h2, if_neg h3]
       exact go_there hs (Decidable.not_not.1 h2)
theorem wenters_any (t : Nat) (cwd : Int) (c : Cr) (i k m o g l z y : Int) (w : World) :
  Calls Tryz.prog 77 #[ask t cwd c, infoV i k m o g l z y] w fun e w' => ∃ r : Int, e = .returned (.int .i64 r) ∧ r = (if k ≠ 1 then 6 else if Md.mayS m o g (decide (k = 1)) c.eff c.eg 1 = false then 4 else 0) ∧ Below w.heap.size w w' := by
 obtain ⟨real, eff, saved, group, eg⟩ := c
 by_cases hk : k = 1
 · subst hk
   rw [if_neg (fun hh => hh rfl)]
   have hm := wmay_any t cwd ⟨real, eff, saved, group, eg⟩ i 1 m o g l z y 1
   generalize hM : Md.mayS m o g (decide ((1 : Int) = 1)) eff eg 1 = M at *
   have HM : Hid (∀ w : World, Calls Tryz.prog 39 #[ask t cwd ⟨real, eff, saved, group, eg⟩, infoV i 1 m o g l z y, .int .i64 1] w fun e w' => e = .returned (.bool M) ∧ Below w.heap.size w w') := Hd (fun w => hm w)
   clear hM hm
   cases M with
   | true =>
     unfold ask infoV
     go_enter Tryz.func77, Tryz.ntmps77
     go_wp2_with fail
     refine (HM.out _).mono ?_
     rintro e w' ⟨rfl, hb⟩
     have HB := Hd hb
     clear hb
     go_wp2
     go_ret
     exact ⟨0, rfl, rfl, (((Below.refl _ _).alloc (Nat.le_refl _) _).alloc (by rw [alloc_size]; omega) _).trans (HB.out.mono (by rw [alloc_size, alloc_size]; omega))⟩
   | false =>
     unfold ask infoV
     go_enter Tryz.func77, Tryz.ntmps77
     go_wp2_with fail
     refine (HM.out _).mono ?_
     rintro e w' ⟨rfl, hb⟩
     have HB := Hd hb
     clear hb
     go_wp2
     go_ret
     exact ⟨4, rfl, rfl, (((Below.refl _ _).alloc (Nat.le_refl _) _).alloc (by rw [alloc_size]; omega) _).trans (HB.out.mono (by rw [alloc_size, alloc_size]; omega))⟩
 · rw [if_pos hk]
   have hk1 : (k != 1) = true := by simpa using hk
   clear hk
   unfold ask infoV
   go_enter Tryz.func77, Tryz.ntmps77
   go_wp2
   go_ret
   exact ⟨6, rfl, rfl, ((Below.refl _ _).alloc (Nat.le_refl _) _).alloc (by rw [alloc_size]; omega) _⟩
theorem stat_infoV {T : IT.Tr} {k : Nat} {m : IT.Nd} (h : T k = some m) : statV T k = infoV k m.kind m.mode m.owner m.group (IT.lnk T k : Nat) (m.data.length + m.names.length : Nat) m.tty := by
 unfold statV; rw [h]; rfl
def Row (w : World) (a : Option Addr) (l : List ByteArray) : Prop := ∀ j (h : j < l.length), ∃ b off, a = some ⟨b, off, none⟩ ∧ b < w.heap.size ∧ w.cell? ⟨b, off + j, none⟩ = some (.string l[j])
def askC (t : Nat) (cwd : Int) (c : Cr) : Array Value := #[.pointer (some ⟨t, 0, none⟩), .int .i64 cwd, .int .i64 c.real, .int .i64 c.eff, .int .i64 c.saved, .int .i64 c.group, .int .i64 c.eg]
def infC (T : IT.Tr) (k : Nat) (m : IT.Nd) : Array Value := #[.int .i64 k, .int .i64 m.kind, .int .i64 m.mode, .int .i64 m.owner, .int .i64 m.group, .int .i64 (IT.lnk T k : Nat), .int .i64 (m.data.length + m.names.length : Nat), .int .i64 m.tty]
def zeroC : Array Value := #[.int .i64 0, .int .i64 0, .int .i64 0, .int .i64 0, .int .i64 0, .int .i64 0, .int .i64 0, .int .i64 0]
structure DI (w : World) (t : Nat) (cwd : Int) (c : Cr) (T : IT.Tr) (B R X k : Nat) (m : IT.Nd) (wr : World) : Prop where
 below : Below w.heap.size w wr
 a : wr.heap[B]? = some (.cells (askC t cwd c) 77 (0, 0))
 r : wr.heap[R]? = some (.cells zeroC 44 (0, 0))
 x : wr.heap[X]? = some (.cells (infC T k m) 44 (0, 0))
 at_ : T k = some m
section
variable {w wr wr' : World} {t : Nat} {cwd : Int} {c : Cr} {T : IT.Tr} {B R X k : Nat} {m : IT.Nd}
theorem DI.turn (h : DI w t cwd c T B R X k m wr) (g : Below wr.heap.size wr wr') : DI w t cwd c T B R X k m wr' :=
 ⟨h.below.trans (g.mono h.below.size), (g.block _ (lt_of_heap h.a)).trans h.a, (g.block _ (lt_of_heap h.r)).trans h.r, (g.block _ (lt_of_heap h.x)).trans h.x, h.at_⟩
theorem DI.ca (h : DI w t cwd c T B R X k m wr) (i : Nat) : wr.cell? ⟨B, i, none⟩ = (askC t cwd c)[i]? := cell_of h.a i
theorem DI.cr (h : DI w t cwd c T B R X k m wr) (i : Nat) : wr.cell? ⟨R, i, none⟩ = zeroC[i]? := cell_of h.r i
theorem DI.cx (h : DI w t cwd c T B R X k m wr) (i : Nat) : wr.cell? ⟨X, i, none⟩ = (infC T k m)[i]? := cell_of h.x i
theorem DI.fr (h : DI w t cwd c T B R X k m wr) (i : Nat) : wr.frozen? ⟨R, i, none⟩ = false := frozen_of h.r i
theorem DI.fx (h : DI w t cwd c T B R X k m wr) (i : Nat) : wr.frozen? ⟨X, i, none⟩ = false := frozen_of h.x i
end
theorem arr_set8 {α : Type} (u0 u1 u2 u3 u4 u5 u6 u7 v0 v1 v2 v3 v4 v5 v6 v7 : α) : (((((((((#[u0, u1, u2, u3, u4, u5, u6, u7] : Array α).setIfInBounds 0 v0).setIfInBounds 1 v1).setIfInBounds 2 v2).setIfInBounds 3 v3).setIfInBounds 4 v4).setIfInBounds 5 v5).setIfInBounds 6 v6).setIfInBounds 7 v7) = #[v0, v1, v2, v3, v4, v5, v6, v7] := by
 apply Array.ext'
 simp
section
variable {W : World} {R : Nat} {T : TypeId} {f : Nat × Nat} {v0 v1 v2 v3 v4 v5 v6 v7 u0 u1 u2 u3 u4 u5 u6 u7 : Value}
theorem heap_set8 (h : W.heap[R]? = some (.cells #[u0, u1, u2, u3, u4, u5, u6, u7] T f)) : ((((((((W.setCell ⟨R, 0, none⟩ v0).setCell ⟨R, 1, none⟩ v1).setCell ⟨R, 2, none⟩ v2).setCell ⟨R, 3, none⟩ v3).setCell ⟨R, 4, none⟩ v4).setCell ⟨R, 5, none⟩ v5).setCell ⟨R, 6, none⟩ v6).setCell ⟨R, 7, none⟩ v7).heap[R]? = some (.cells #[v0, v1, v2, v3, v4, v5, v6, v7] T f) := by
 have h0 := heap_setCell_same (i := 0) h v0
 have h1 := heap_setCell_same (i := 1) h0 v1
 have h2 := heap_setCell_same (i := 2) h1 v2
 have h3 := heap_setCell_same (i := 3) h2 v3
 have h4 := heap_setCell_same (i := 4) h3 v4
 have h5 := heap_setCell_same (i := 5) h4 v5
 have h6 := heap_setCell_same (i := 6) h5 v6
 have h7 := heap_setCell_same (i := 7) h6 v7
 rw [arr_set8] at h7
 exact h7
theorem heap_set8_other {b : Nat} (hb : b ≠ R) : ((((((((W.setCell ⟨R, 0, none⟩ v0).setCell ⟨R, 1, none⟩ v1).setCell ⟨R, 2, none⟩ v2).setCell ⟨R, 3, none⟩ v3).setCell ⟨R, 4, none⟩ v4).setCell ⟨R, 5, none⟩ v5).setCell ⟨R, 6, none⟩ v6).setCell ⟨R, 7, none⟩ v7).heap[b]? = W.heap[b]? := by
 rw [Below.heap_setCell _ _ _ _ hb, Below.heap_setCell _ _ _ _ hb, Below.heap_setCell _ _ _ _ hb, Below.heap_setCell _ _ _ _ hb, Below.heap_setCell _ _ _ _ hb, Below.heap_setCell _ _ _ _ hb, Below.heap_setCell _ _ _ _ hb, Below.heap_setCell _ _ _ _ hb]
theorem below_set8 {n : Nat} {w : World} (h : Below n w W) (hn : n ≤ R) : Below n w ((((((((W.setCell ⟨R, 0, none⟩ v0).setCell ⟨R, 1, none⟩ v1).setCell ⟨R, 2, none⟩ v2).setCell ⟨R, 3, none⟩ v3).setCell ⟨R, 4, none⟩ v4).setCell ⟨R, 5, none⟩ v5).setCell ⟨R, 6, none⟩ v6).setCell ⟨R, 7, none⟩ v7) :=
 (((((((h.setCell hn _).setCell hn _).setCell hn _).setCell hn _).setCell hn _).setCell hn _).setCell hn _).setCell hn _
end
theorem ret_info {fn : Func} {tmps : Array Value} {W : World} {R : Nat} {p u : Tmp} {v0 v1 v2 v3 v4 v5 v6 v7 : Value} (hres : fn.results = #[.cell p 44, .tmp u]) (hp : tmps.getD p undef = .pointer (some ⟨R, 0, none⟩))
  (hR : W.heap[R]? = some (.cells #[v0, v1, v2, v3, v4, v5, v6, v7] 44 (0, 0))) : (results fn tmps).run Tryz.prog W = .ok (.tuple #[.agg #[v0, v1, v2, v3, v4, v5, v6, v7], tmps.getD u undef]) W := by
 rw [results_cell_tmp hres, hp]
 have c0 : W.cell? ⟨R, 0, none⟩ = some v0 := cell_of hR 0
 have c1 : W.cell? ⟨R, 1, none⟩ = some v1 := cell_of hR 1
 have c2 : W.cell? ⟨R, 2, none⟩ = some v2 := cell_of hR 2
 have c3 : W.cell? ⟨R, 3, none⟩ = some v3 := cell_of hR 3
 have c4 : W.cell? ⟨R, 4, none⟩ = some v4 := cell_of hR 4
 have c5 : W.cell? ⟨R, 5, none⟩ = some v5 := cell_of hR 5
 have c6 : W.cell? ⟨R, 6, none⟩ = some v6 := cell_of hR 6
 have c7 : W.cell? ⟨R, 7, none⟩ = some v7 := cell_of hR 7
 simp [go_sem, c0, c1, c2, c3, c4, c5, c6, c7, Tryz.isAgg44, Tryz.sizeOf44]
end Go.Proofs.YtafonmnfeibaiaaGreat
namespace Go.Proofs.YtafonmnfeibaiaaGreat.RF
open Go.RowKit
def makeBad (kind mo o g tty : Int) : Prop := kind < 0 ∨ 2 < kind ∨ rightB mo o g = false ∨ (kind = 2 ∧ (tty < 0 ∨ 4 ≤ tty))
theorem rf_make_bad {t : Nat} (kind mo o g tty : Int) (hmo : mo < 9223372036854775808) (w : World) (hb : makeBad kind mo o g tty) :
  Calls Tryz.prog 120 #[.pointer (some ⟨t, 0, none⟩), .int .i64 kind, .int .i64 mo, .int .i64 o, .int .i64 g, .int .i64 tty] w fun e w' => e = .returned (.tuple #[.int .i64 0, .int .i64 1]) ∧ w = w' := by
 have HR := Hd (Md.rright_any mo hmo w)
 have HO := Hd (rf_id o w)
 have HG := Hd (rf_id g w)
 unfold makeBad at hb
 rw [right_ids] at hb
 clear hmo
 generalize Md.rightB mo = rm at *
 by_cases h1 : kind < 0
 · clear hb
   go_enter Tryz.func120, Tryz.ntmps120
   go_wp2_with fail
   refine HR.out.mono ?_
   rintro e w2 ⟨rfl, rfl⟩
   go_wp2
   go_ret2
   exact ⟨rfl, rfl⟩
 · by_cases h2 : 2 < kind
   · clear hb
     go_enter Tryz.func120, Tryz.ntmps120
     go_wp2_with fail
     refine HR.out.mono ?_
     rintro e w2 ⟨rfl, rfl⟩
     go_wp2
     go_ret2
     exact ⟨rfl, rfl⟩
   · cases rm with
     | false =>
       clear hb
       go_enter Tryz.func120, Tryz.ntmps120
       go_wp2_with fail
       refine HR.out.mono ?_
       rintro e w2 ⟨rfl, rfl⟩
       go_wp2
       go_ret2
       exact ⟨rfl, rfl⟩
     | true =>
       cases ho : idB o with
       | false =>
         rw [ho] at HO
         clear hb ho
         go_enter Tryz.func120, Tryz.ntmps120
         go_wp2_with fail
         refine HR.out.mono ?_
         rintro e w2 ⟨rfl, rfl⟩
         go_wp2_with fail
         refine HO.out.mono ?_
         rintro e w2 ⟨rfl, rfl⟩
         go_wp2
         go_ret2
         exact ⟨rfl, rfl⟩
       | true =>
         rw [ho] at HO
         cases hg : idB g with
         | false =>
           rw [hg] at HG
           clear hb ho hg
           go_enter Tryz.func120, Tryz.ntmps120
           go_wp2_with fail
           refine HR.out.mono ?_
           rintro e w2 ⟨rfl, rfl⟩
           go_wp2_with fail
           refine HO.out.mono ?_
           rintro e w2 ⟨rfl, rfl⟩
           go_wp2_with fail
           refine HG.out.mono ?_
           rintro e w2 ⟨rfl, rfl⟩
           go_wp2
           go_ret2
           exact ⟨rfl, rfl⟩
         | true =>
           rw [hg] at HG
           have hk : kind = 2 ∧ (tty < 0 ∨ 4 ≤ tty) := by
            rcases hb with hb | hb | hb | hb
            · omega
            · omega
            · rw [ho, hg] at hb; cases hb
            · exact hb
           obtain ⟨rfl, hk⟩ := hk
           clear hb ho hg
           by_cases h3 : tty < 0
           · clear hk
             go_enter Tryz.func120, Tryz.ntmps120
             go_wp2_with fail
             refine HR.out.mono ?_
             rintro e w2 ⟨rfl, rfl⟩
             go_wp2_with fail
             refine HO.out.mono ?_
             rintro e w2 ⟨rfl, rfl⟩
             go_wp2_with fail
             refine HG.out.mono ?_
             rintro e w2 ⟨rfl, rfl⟩
             go_wp2
             go_ret2
             exact ⟨rfl, rfl⟩
           · have h4 : 4 ≤ tty := by omega
             clear hk
             go_enter Tryz.func120, Tryz.ntmps120
             go_wp2_with fail
             refine HR.out.mono ?_
             rintro e w2 ⟨rfl, rfl⟩
             go_wp2_with fail
             refine HO.out.mono ?_
             rintro e w2 ⟨rfl, rfl⟩
             go_wp2_with fail
             refine HG.out.mono ?_
             rintro e w2 ⟨rfl, rfl⟩
             go_wp2
             go_ret2
             exact ⟨rfl, rfl⟩
def makeN (kind mo o g tty : Int) (k : Nat) : IT.Nd := ⟨kind, mo, o, g, if kind = 2 then tty else 0, 1, [], [], if kind = 1 then k else 0⟩
def makeR (kind mo o g tty : Int) (k : Nat) : RN := ⟨true, kind, mo, o, g, if kind = 2 then tty else 0, 1, ((if kind = 1 then k else 0 : Nat) : Int), ⟨#[]⟩, .slice none 0 0, []⟩
theorem make_kept (kind mo o g tty : Int) (k : Nat) : Kept (makeR kind mo o g tty k) (makeN kind mo o g tty k) := ⟨rfl, rfl, rfl, rfl, rfl, rfl, rfl, fun _ => rfl, rfl, List.Perm.refl _⟩
theorem make_stf {w W : World} {t B : Nat} {G : Gt} {T : IT.Tr} (h : Trf w t B G T) (hb : Below w.heap.size w W) {kind mo o g tty : Int} (hbad : ¬ makeBad kind mo o g tty) {k : Nat} (hk1 : 1 ≤ k) (hk2 : k ≤ 200) (hk : T k = none) (hf : ∀ j, 1 ≤ j → j < k → T j ≠ none) :
  Stf w t B (fun T' => IT.isMake rt T kind mo o g tty k 0 T') (W.setCells B (k * 10) (makeR kind mo o g tty k).cells) := by
 refine ⟨_, _, (Mo.of hb).setCells _ _, (h.rep.below hb).setAll hk2 _ (EntAt.nil _ _ rfl rfl), h.ties.set k (make_kept kind mo o g tty k), ?_⟩
 unfold makeBad at hbad
 show IT.isMake rt T kind mo o g tty k 0 _
 unfold IT.isMake
 have hr : rightB mo o g = true := by
  cases hh : rightB mo o g with
  | true => rfl
  | false => exact absurd (.inr (.inr (.inl hh))) hbad
 rw [if_neg (by rintro (a | a | a); exact hbad (.inl a); exact hbad (.inr (.inl a)); exact a hr), if_neg (fun hh => hbad (.inr (.inr (.inr ⟨hh.1, by omega⟩)))), if_neg (fun hh => hh k hk1 hk2 hk)]
 exact ⟨rfl, hk1, hk2, hk, hf, rfl⟩
theorem make_full {w : World} {t B : Nat} {G : Gt} {T : IT.Tr} (h : Trf w t B G T) {kind mo o g tty : Int} (hbad : ¬ makeBad kind mo o g tty) (hf : ∀ j, 1 ≤ j → j < 201 → T j ≠ none) :
  Stf w t B (fun T' => IT.isMake rt T kind mo o g tty 0 9 T') w := by
 refine Stf.keep h (Below.refl _ _) ?_
 unfold makeBad at hbad
 unfold IT.isMake
 have hr : rightB mo o g = true := by
  cases hh : rightB mo o g with
  | true => rfl
  | false => exact absurd (.inr (.inr (.inl hh))) hbad
 rw [if_neg (by rintro (a | a | a); exact hbad (.inl a); exact hbad (.inr (.inl a)); exact a hr), if_neg (fun hh => hbad (.inr (.inr (.inr ⟨hh.1, by omega⟩)))), if_pos (fun k h1 h2 => hf k h1 (by omega))]
 exact ⟨rfl, rfl, rfl⟩
theorem rf_make {w : World} {t B : Nat} {G : Gt} {T : IT.Tr} (h : Trf w t B G T) (kind mo o g tty : Int) (hmo : mo < 9223372036854775808) :
  Calls Tryz.prog 120 #[.pointer (some ⟨t, 0, none⟩), .int .i64 kind, .int .i64 mo, .int .i64 o, .int .i64 g, .int .i64 tty] w fun e w' => ∃ (i : Nat) (r : Int), e = .returned (.tuple #[.int .i64 i, .int .i64 r]) ∧ Stf w t B (fun T' => IT.isMake rt T kind mo o g tty i r T') w' := by
 by_cases hbad : makeBad kind mo o g tty
 · refine (rf_make_bad kind mo o g tty hmo w hbad).mono ?_
   rintro e w' ⟨rfl, rfl⟩
   refine ⟨0, 1, rfl, Stf.keep h (Below.refl _ _) ?_⟩
   unfold makeBad at hbad
   unfold IT.isMake
   rcases hbad with a | a | a | a
   · rw [if_pos (.inl a)]; exact ⟨rfl, rfl, rfl⟩
   · rw [if_pos (.inr (.inl a))]; exact ⟨rfl, rfl, rfl⟩
   · rw [if_pos (.inr (.inr (fun hh => by unfold rt at hh; rw [a] at hh; cases hh)))]; exact ⟨rfl, rfl, rfl⟩
   · by_cases hx : kind < 0 ∨ kind > 2 ∨ ¬ rt mo o g
     · rw [if_pos hx]; exact ⟨rfl, rfl, rfl⟩
     · rw [if_neg hx, if_pos a]; exact ⟨rfl, rfl, rfl⟩
 · have HR : Hid (Calls Tryz.prog 55 #[.int .i64 mo] w fun e w' => e = .returned (.bool (Md.rightB mo)) ∧ w = w') := Hd ((Md.rright_any mo hmo w).mono (fun _ _ h => ⟨h.1, h.2.symm⟩))
   have HO := Hd (rf_id o w)
   have HG := Hd (rf_id g w)
   have hr : rightB mo o g = true := by
    cases hh : rightB mo o g with
    | true => rfl
    | false => exact absurd (.inr (.inr (.inl hh))) hbad
   obtain ⟨r1, r2, r3⟩ := right_parts hr
   rw [r1] at HR
   rw [r2] at HO
   rw [r3] at HG
   have HBAD := Hd hbad
   have H := Hd h
   have hkind : kind = 0 ∨ kind = 1 ∨ (kind = 2 ∧ 0 ≤ tty ∧ tty < 4) := by
    unfold makeBad at hbad
    by_cases h0 : kind = 0
    · exact .inl h0
    · by_cases h1 : kind = 1
      · exact .inr (.inl h1)
      · have h2 : kind = 2 := by
         have := fun e => hbad (.inl e)
         have := fun e => hbad (.inr (.inl e))
         omega
        refine .inr (.inr ⟨h2, ?_, ?_⟩)
        · exact Int.not_lt.1 (fun e => hbad (.inr (.inr (.inr ⟨h2, .inl e⟩))))
        · exact Int.not_le.1 (fun e => hbad (.inr (.inr (.inr ⟨h2, .inr e⟩))))
   clear h hbad hr r1 r2 r3 hmo
   rcases hkind with rfl | rfl | ⟨rfl, ht1, ht2⟩
   · go_enter Tryz.func120, Tryz.ntmps120
     go_wp2_with fail
     refine HR.out.mono ?_
     rintro e w2 ⟨rfl, rfl⟩
     go_wp2_with fail
     refine HO.out.mono ?_
     rintro e w2 ⟨rfl, rfl⟩
     go_wp2_with fail
     refine HG.out.mono ?_
     rintro e w2 ⟨rfl, rfl⟩
     go_wp2
     go_loopg [15] 200 (fun gg iv wr => ∃ k : Nat, 1 ≤ k ∧ k + gg = 201 ∧ iv = .int .i64 (k : Int) ∧ wr = w ∧ Hid (∀ j, 1 ≤ j → j < k → T j ≠ none))
     case atStart => exact ⟨1, by omega, by omega, rfl, rfl, Hd (fun j h1 h2 => by omega)⟩
     case round =>
      obtain ⟨k, hk1, hkg, rfl, rfl, HF⟩ := hrel
      by_cases hlt : k ≤ 200
      · obtain ⟨og, rfl⟩ : ∃ og, gk = og + 1 := ⟨gk - 1, by omega⟩
        have c0 := H.out.rep.cellT
        have b0 := H.out.rep.c0 k hlt
        cases hA : T k with
        | some m =>
          rw [(H.out.ties.sok k m hA).is] at b0
          have HF2 : Hid (∀ j, 1 ≤ j → j < k + 1 → T j ≠ none) := Hd (fun j h1 h2 => by
           by_cases e : j = k
           · subst e; rw [hA]; exact fun e => by cases e
           · exact HF.out j h1 (by omega))
          clear hA
          go_wp2
          go_roundg og
          case measure => omega
          case rel => exact ⟨k + 1, by omega, by omega, by go_num, rfl, HF2⟩
        | none =>
          rw [(H.out.ties.nok k hlt hA).1] at b0
          have HA := Hd hA
          clear hA
          go_wp2_with fail
          have hX := alloc_heap wr (.cells #[.bool true, .int .i64 0, .int .i64 mo, .int .i64 o, .int .i64 g, .int .i64 0, .int .i64 1, .int .i64 0, .string ⟨#[]⟩, .slice none 0 0] 112)
          have hbw : Below wr.heap.size wr ((wr.alloc (.cells #[.bool true, .int .i64 0, .int .i64 mo, .int .i64 o, .int .i64 g, .int .i64 0, .int .i64 1, .int .i64 0, .string ⟨#[]⟩, .slice none 0 0] 112)).drew) := ((Below.refl _ _).alloc (Nat.le_refl _) _).drew
          change ((wr.alloc (.cells #[.bool true, .int .i64 0, .int .i64 mo, .int .i64 o, .int .i64 g, .int .i64 0, .int .i64 1, .int .i64 0, .string ⟨#[]⟩, .slice none 0 0] 112)).drew).heap[wr.heap.size]? = _ at hX
          refine wp_region_still_tail 7 (by kernel_rfl) (by kernel_rfl) ?_
          change wpStill _ _ ((wr.alloc (.cells #[.bool true, .int .i64 0, .int .i64 mo, .int .i64 o, .int .i64 g, .int .i64 0, .int .i64 1, .int .i64 0, .string ⟨#[]⟩, .slice none 0 0] 112)).drew) (fun a' => wpList _ _ _ _ a' ((wr.alloc (.cells #[.bool true, .int .i64 0, .int .i64 mo, .int .i64 o, .int .i64 g, .int .i64 0, .int .i64 1, .int .i64 0, .string ⟨#[]⟩, .slice none 0 0] 112)).drew)) _ _
          generalize ((wr.alloc (.cells #[.bool true, .int .i64 0, .int .i64 mo, .int .i64 o, .int .i64 g, .int .i64 0, .int .i64 1, .int .i64 0, .string ⟨#[]⟩, .slice none 0 0] 112)).drew) = W at *
          clear c0 b0
          have c0 := (H.out.rep.below hbw).cellT
          have x0 : W.cell? ⟨wr.heap.size, 0, none⟩ = some (.bool true) := cell_of hX 0
          have x1 : W.cell? ⟨wr.heap.size, 1, none⟩ = some (.int .i64 0) := cell_of hX 1
          have x2 : W.cell? ⟨wr.heap.size, 2, none⟩ = some (.int .i64 mo) := cell_of hX 2
          have x3 : W.cell? ⟨wr.heap.size, 3, none⟩ = some (.int .i64 o) := cell_of hX 3
          have x4 : W.cell? ⟨wr.heap.size, 4, none⟩ = some (.int .i64 g) := cell_of hX 4
          have x5 : W.cell? ⟨wr.heap.size, 5, none⟩ = some (.int .i64 0) := cell_of hX 5
          have x6 : W.cell? ⟨wr.heap.size, 6, none⟩ = some (.int .i64 1) := cell_of hX 6
          have x7 : W.cell? ⟨wr.heap.size, 7, none⟩ = some (.int .i64 0) := cell_of hX 7
          have x8 : W.cell? ⟨wr.heap.size, 8, none⟩ = some (.string ⟨#[]⟩) := cell_of hX 8
          have x9 : W.cell? ⟨wr.heap.size, 9, none⟩ = some (.slice none 0 0) := cell_of hX 9
          have HBW := Hd hbw
          have hT : W.there B (k * 10) 10 := (H.out.rep.below hbw).there hlt
          have hI : (Tryz.prog.info? 112).map (·.size) = some 10 := rfl
          clear hX hbw
          have n1 : k < 201 := by omega
          have n2 : (k : Int) < 201 := by omega
          simp only [List.take_succ_cons, List.take_zero, List.drop_succ_cons, List.drop_zero]
          repeat still_step
          refine wpStill_nil ?_
          have HS := Hd (make_stf H.out HBW.out HBAD.out hk1 hlt HA.out HF.out)
          refine wpList_store_mid rfl 112 _ _ rfl B (k * 10) (makeR 0 mo o g tty k).cells.toArray rfl rfl hT hI (by simp [RN.cells, makeR, Value.oneCell']) ?_
          have HS2 : Hid (Stf wr t B (fun T' => IT.isMake rt T 0 mo o g tty k 0 T') (World.setCells W B (k * 10) (makeR 0 mo o g tty k).cells.toArray.toList)) := HS
          generalize World.setCells W B (k * 10) (makeR 0 mo o g tty k).cells.toArray.toList = W5 at HS2 ⊢
          clear HS hT hI
          go_wp2
          go_ret2
          exact ⟨k, 0, rfl, HS2.out⟩
      · obtain rfl : k = 201 := by omega
        have HS := Hd (make_full H.out HBAD.out HF.out)
        clear hlt
        go_wp2
        go_ret2
        exact ⟨0, 9, rfl, HS.out⟩
   · go_enter Tryz.func120, Tryz.ntmps120
     go_wp2_with fail
     refine HR.out.mono ?_
     rintro e w2 ⟨rfl, rfl⟩
     go_wp2_with fail
     refine HO.out.mono ?_
     rintro e w2 ⟨rfl, rfl⟩
     go_wp2_with fail
     refine HG.out.mono ?_
     rintro e w2 ⟨rfl, rfl⟩
     go_wp2
     go_loopg [15] 200 (fun gg iv wr => ∃ k : Nat, 1 ≤ k ∧ k + gg = 201 ∧ iv = .int .i64 (k : Int) ∧ wr = w ∧ Hid (∀ j, 1 ≤ j → j < k → T j ≠ none))
     case atStart => exact ⟨1, by omega, by omega, rfl, rfl, Hd (fun j h1 h2 => by omega)⟩
     case round =>
      obtain ⟨k, hk1, hkg, rfl, rfl, HF⟩ := hrel
      by_cases hlt : k ≤ 200
      · obtain ⟨og, rfl⟩ : ∃ og, gk = og + 1 := ⟨gk - 1, by omega⟩
        have c0 := H.out.rep.cellT
        have b0 := H.out.rep.c0 k hlt
        cases hA : T k with
        | some m =>
          rw [(H.out.ties.sok k m hA).is] at b0
          have HF2 : Hid (∀ j, 1 ≤ j → j < k + 1 → T j ≠ none) := Hd (fun j h1 h2 => by
           by_cases e : j = k
           · subst e; rw [hA]; exact fun e => by cases e
           · exact HF.out j h1 (by omega))
          clear hA
          go_wp2
          go_roundg og
          case measure => omega
          case rel => exact ⟨k + 1, by omega, by omega, by go_num, rfl, HF2⟩
        | none =>
          rw [(H.out.ties.nok k hlt hA).1] at b0
          have HA := Hd hA
          clear hA
          go_wp2_with fail
          have hX := alloc_heap wr (.cells #[.bool true, .int .i64 1, .int .i64 mo, .int .i64 o, .int .i64 g, .int .i64 0, .int .i64 1, .int .i64 (k : Int), .string ⟨#[]⟩, .slice none 0 0] 112)
          have hbw : Below wr.heap.size wr ((wr.alloc (.cells #[.bool true, .int .i64 1, .int .i64 mo, .int .i64 o, .int .i64 g, .int .i64 0, .int .i64 1, .int .i64 (k : Int), .string ⟨#[]⟩, .slice none 0 0] 112)).drew) := ((Below.refl _ _).alloc (Nat.le_refl _) _).drew
          change ((wr.alloc (.cells #[.bool true, .int .i64 1, .int .i64 mo, .int .i64 o, .int .i64 g, .int .i64 0, .int .i64 1, .int .i64 (k : Int), .string ⟨#[]⟩, .slice none 0 0] 112)).drew).heap[wr.heap.size]? = _ at hX
          refine wp_region_still_tail 7 (by kernel_rfl) (by kernel_rfl) ?_
          change wpStill _ _ ((wr.alloc (.cells #[.bool true, .int .i64 1, .int .i64 mo, .int .i64 o, .int .i64 g, .int .i64 0, .int .i64 1, .int .i64 (k : Int), .string ⟨#[]⟩, .slice none 0 0] 112)).drew) (fun a' => wpList _ _ _ _ a' ((wr.alloc (.cells #[.bool true, .int .i64 1, .int .i64 mo, .int .i64 o, .int .i64 g, .int .i64 0, .int .i64 1, .int .i64 (k : Int), .string ⟨#[]⟩, .slice none 0 0] 112)).drew)) _ _
          generalize ((wr.alloc (.cells #[.bool true, .int .i64 1, .int .i64 mo, .int .i64 o, .int .i64 g, .int .i64 0, .int .i64 1, .int .i64 (k : Int), .string ⟨#[]⟩, .slice none 0 0] 112)).drew) = W at *
          clear c0 b0
          have c0 := (H.out.rep.below hbw).cellT
          have x0 : W.cell? ⟨wr.heap.size, 0, none⟩ = some (.bool true) := cell_of hX 0
          have x1 : W.cell? ⟨wr.heap.size, 1, none⟩ = some (.int .i64 1) := cell_of hX 1
          have x2 : W.cell? ⟨wr.heap.size, 2, none⟩ = some (.int .i64 mo) := cell_of hX 2
          have x3 : W.cell? ⟨wr.heap.size, 3, none⟩ = some (.int .i64 o) := cell_of hX 3
          have x4 : W.cell? ⟨wr.heap.size, 4, none⟩ = some (.int .i64 g) := cell_of hX 4
          have x5 : W.cell? ⟨wr.heap.size, 5, none⟩ = some (.int .i64 0) := cell_of hX 5
          have x6 : W.cell? ⟨wr.heap.size, 6, none⟩ = some (.int .i64 1) := cell_of hX 6
          have x7 : W.cell? ⟨wr.heap.size, 7, none⟩ = some (.int .i64 (k : Int)) := cell_of hX 7
          have x8 : W.cell? ⟨wr.heap.size, 8, none⟩ = some (.string ⟨#[]⟩) := cell_of hX 8
          have x9 : W.cell? ⟨wr.heap.size, 9, none⟩ = some (.slice none 0 0) := cell_of hX 9
          have HBW := Hd hbw
          have hT : W.there B (k * 10) 10 := (H.out.rep.below hbw).there hlt
          have hI : (Tryz.prog.info? 112).map (·.size) = some 10 := rfl
          clear hX hbw
          have n1 : k < 201 := by omega
          have n2 : (k : Int) < 201 := by omega
          simp only [List.take_succ_cons, List.take_zero, List.drop_succ_cons, List.drop_zero]
          repeat still_step
          refine wpStill_nil ?_
          have HS := Hd (make_stf H.out HBW.out HBAD.out hk1 hlt HA.out HF.out)
          refine wpList_store_mid rfl 112 _ _ rfl B (k * 10) (makeR 1 mo o g tty k).cells.toArray rfl rfl hT hI (by simp [RN.cells, makeR, Value.oneCell']) ?_
          have HS2 : Hid (Stf wr t B (fun T' => IT.isMake rt T 1 mo o g tty k 0 T') (World.setCells W B (k * 10) (makeR 1 mo o g tty k).cells.toArray.toList)) := HS
          generalize World.setCells W B (k * 10) (makeR 1 mo o g tty k).cells.toArray.toList = W5 at HS2 ⊢
          clear HS hT hI
          go_wp2
          go_ret2
          exact ⟨k, 0, rfl, HS2.out⟩
      · obtain rfl : k = 201 := by omega
        have HS := Hd (make_full H.out HBAD.out HF.out)
        clear hlt
        go_wp2
        go_ret2
        exact ⟨0, 9, rfl, HS.out⟩
   · go_enter Tryz.func120, Tryz.ntmps120
     go_wp2_with fail
     refine HR.out.mono ?_
     rintro e w2 ⟨rfl, rfl⟩
     go_wp2_with fail
     refine HO.out.mono ?_
     rintro e w2 ⟨rfl, rfl⟩
     go_wp2_with fail
     refine HG.out.mono ?_
     rintro e w2 ⟨rfl, rfl⟩
     go_wp2
     go_loopg [15] 200 (fun gg iv wr => ∃ k : Nat, 1 ≤ k ∧ k + gg = 201 ∧ iv = .int .i64 (k : Int) ∧ wr = w ∧ Hid (∀ j, 1 ≤ j → j < k → T j ≠ none))
     case atStart => exact ⟨1, by omega, by omega, rfl, rfl, Hd (fun j h1 h2 => by omega)⟩
     case round =>
      obtain ⟨k, hk1, hkg, rfl, rfl, HF⟩ := hrel
      by_cases hlt : k ≤ 200
      · obtain ⟨og, rfl⟩ : ∃ og, gk = og + 1 := ⟨gk - 1, by omega⟩
        have c0 := H.out.rep.cellT
        have b0 := H.out.rep.c0 k hlt
        cases hA : T k with
        | some m =>
          rw [(H.out.ties.sok k m hA).is] at b0
          have HF2 : Hid (∀ j, 1 ≤ j → j < k + 1 → T j ≠ none) := Hd (fun j h1 h2 => by
           by_cases e : j = k
           · subst e; rw [hA]; exact fun e => by cases e
           · exact HF.out j h1 (by omega))
          clear hA
          go_wp2
          go_roundg og
          case measure => omega
          case rel => exact ⟨k + 1, by omega, by omega, by go_num, rfl, HF2⟩
        | none =>
          rw [(H.out.ties.nok k hlt hA).1] at b0
          have HA := Hd hA
          clear hA
          go_wp2_with fail
          have hX := alloc_heap wr (.cells #[.bool true, .int .i64 2, .int .i64 mo, .int .i64 o, .int .i64 g, .int .i64 tty, .int .i64 1, .int .i64 0, .string ⟨#[]⟩, .slice none 0 0] 112)
          have hbw : Below wr.heap.size wr ((wr.alloc (.cells #[.bool true, .int .i64 2, .int .i64 mo, .int .i64 o, .int .i64 g, .int .i64 tty, .int .i64 1, .int .i64 0, .string ⟨#[]⟩, .slice none 0 0] 112)).drew) := ((Below.refl _ _).alloc (Nat.le_refl _) _).drew
          change ((wr.alloc (.cells #[.bool true, .int .i64 2, .int .i64 mo, .int .i64 o, .int .i64 g, .int .i64 tty, .int .i64 1, .int .i64 0, .string ⟨#[]⟩, .slice none 0 0] 112)).drew).heap[wr.heap.size]? = _ at hX
          refine wp_region_still_tail 7 (by kernel_rfl) (by kernel_rfl) ?_
          change wpStill _ _ ((wr.alloc (.cells #[.bool true, .int .i64 2, .int .i64 mo, .int .i64 o, .int .i64 g, .int .i64 tty, .int .i64 1, .int .i64 0, .string ⟨#[]⟩, .slice none 0 0] 112)).drew) (fun a' => wpList _ _ _ _ a' ((wr.alloc (.cells #[.bool true, .int .i64 2, .int .i64 mo, .int .i64 o, .int .i64 g, .int .i64 tty, .int .i64 1, .int .i64 0, .string ⟨#[]⟩, .slice none 0 0] 112)).drew)) _ _
          generalize ((wr.alloc (.cells #[.bool true, .int .i64 2, .int .i64 mo, .int .i64 o, .int .i64 g, .int .i64 tty, .int .i64 1, .int .i64 0, .string ⟨#[]⟩, .slice none 0 0] 112)).drew) = W at *
          clear c0 b0
          have c0 := (H.out.rep.below hbw).cellT
          have x0 : W.cell? ⟨wr.heap.size, 0, none⟩ = some (.bool true) := cell_of hX 0
          have x1 : W.cell? ⟨wr.heap.size, 1, none⟩ = some (.int .i64 2) := cell_of hX 1
          have x2 : W.cell? ⟨wr.heap.size, 2, none⟩ = some (.int .i64 mo) := cell_of hX 2
          have x3 : W.cell? ⟨wr.heap.size, 3, none⟩ = some (.int .i64 o) := cell_of hX 3
          have x4 : W.cell? ⟨wr.heap.size, 4, none⟩ = some (.int .i64 g) := cell_of hX 4
          have x5 : W.cell? ⟨wr.heap.size, 5, none⟩ = some (.int .i64 tty) := cell_of hX 5
          have x6 : W.cell? ⟨wr.heap.size, 6, none⟩ = some (.int .i64 1) := cell_of hX 6
          have x7 : W.cell? ⟨wr.heap.size, 7, none⟩ = some (.int .i64 0) := cell_of hX 7
          have x8 : W.cell? ⟨wr.heap.size, 8, none⟩ = some (.string ⟨#[]⟩) := cell_of hX 8
          have x9 : W.cell? ⟨wr.heap.size, 9, none⟩ = some (.slice none 0 0) := cell_of hX 9
          have HBW := Hd hbw
          have hT : W.there B (k * 10) 10 := (H.out.rep.below hbw).there hlt
          have hI : (Tryz.prog.info? 112).map (·.size) = some 10 := rfl
          clear hX hbw
          have n1 : k < 201 := by omega
          have n2 : (k : Int) < 201 := by omega
          simp only [List.take_succ_cons, List.take_zero, List.drop_succ_cons, List.drop_zero]
          repeat still_step
          refine wpStill_nil ?_
          have HS := Hd (make_stf H.out HBW.out HBAD.out hk1 hlt HA.out HF.out)
          refine wpList_store_mid rfl 112 _ _ rfl B (k * 10) (makeR 2 mo o g tty k).cells.toArray rfl rfl hT hI (by simp [RN.cells, makeR, Value.oneCell']) ?_
          have HS2 : Hid (Stf wr t B (fun T' => IT.isMake rt T 2 mo o g tty k 0 T') (World.setCells W B (k * 10) (makeR 2 mo o g tty k).cells.toArray.toList)) := HS
          generalize World.setCells W B (k * 10) (makeR 2 mo o g tty k).cells.toArray.toList = W5 at HS2 ⊢
          clear HS hT hI
          go_wp2
          go_ret2
          exact ⟨k, 0, rfl, HS2.out⟩
      · obtain rfl : k = 201 := by omega
        have HS := Hd (make_full H.out HBAD.out HF.out)
        clear hlt
        go_wp2
        go_ret2
        exact ⟨0, 9, rfl, HS.out⟩
theorem ins_sorted {A : List IT.Bytes} (h : A.Pairwise (· ≤ ·)) {x : IT.Bytes} {k : Nat} (hk : k ≤ A.length) (hd : ∀ y ∈ A.drop k, x < y) (ht : k = 0 ∨ ∃ y, A[k - 1]? = some y ∧ ¬ x < y) : (A.take k ++ x :: A.drop k).Pairwise (· ≤ ·) := by
 have h0 : (A.take k ++ A.drop k).Pairwise (· ≤ ·) := by rw [List.take_append_drop]; exact h
 obtain ⟨h1, h2, h3⟩ := List.pairwise_append.1 h0
 refine List.pairwise_append.2 ⟨h1, List.pairwise_cons.2 ⟨fun y hy => List.le_of_lt (hd y hy), h2⟩, fun a ha b hb => ?_⟩
 rcases List.mem_cons.1 hb with rfl | hb
 · rcases ht with rfl | ⟨y, hy, hyx⟩
   · simp at ha
   · have hyx' : y ≤ b := hyx
     obtain ⟨i, hi, rfl⟩ := List.mem_iff_getElem.1 ha
     rw [List.length_take] at hi
     rw [List.getElem_take]
     have hy2 := (List.getElem?_eq_some_iff.1 hy)
     obtain ⟨hkl, hy3⟩ := hy2
     by_cases e : i = k - 1
     · subst e; rw [hy3]; exact hyx'
     · have := List.pairwise_iff_getElem.1 h i (k - 1) (by omega) hkl (by omega)
       rw [hy3] at this
       exact List.le_trans this hyx'
 · exact h3 a ha b hb
theorem ins_perm {α : Type} (A : List α) (x : α) (k : Nat) : (A.take k ++ x :: A.drop k).Perm (A ++ [x]) := by
 refine (List.perm_middle).trans ?_
 rw [List.take_append_drop]
 exact (List.perm_append_singleton x A).symm
def Nr (w : World) (base : Nat) (v : Value) (A : List ByteArray) : Prop := w.ownsRow base 9 1 v A.length (A.map Value.string)
theorem Nr.below {w w' : World} {base : Nat} {v : Value} {A : List ByteArray} (h : Nr w base v A) (hb : Below w.heap.size w w') : Nr w' base v A := by
 obtain ⟨h1, ⟨h2, h3⟩ | ⟨g, cap, cur, h2, hg, hh, rest⟩⟩ := h
 · exact ⟨h1, .inl ⟨h2, h3⟩⟩
 · exact ⟨h1, .inr ⟨g, cap, cur, h2, hg, (hb.block g (lt_of_heap hh)).trans hh, rest⟩⟩
theorem Nr.lit {w : World} {base : Nat} {v : Value} {A : List ByteArray} (h : Nr w base v A) : ∃ a cap, v = .slice a A.length cap ∧ A.length ≤ cap ∧ cap ≤ maxLen ∧ ∀ (j : Nat) (x : ByteArray), A[j]? = some x → ∃ g : Nat, a = some ⟨g, 0, none⟩ ∧ base ≤ g ∧ w.cell? ⟨g, j, none⟩ = some (.string x) ∧ w.frozen? ⟨g, j, none⟩ = false ∧ ∀ y, Nr (w.setCell ⟨g, j, none⟩ (.string y)) base v (A.set j y) := by
 have h' := h
 obtain ⟨h1, h2⟩ := h
 rcases h2 with ⟨e1, e2⟩ | ⟨g, cap, cur, e1, e2, e3, e4, e5, e6, e7⟩
 · refine ⟨none, 0, by rw [e1, e2], by omega, by decide, fun j p hp => ?_⟩
   have := (List.getElem?_eq_some_iff.1 hp).1
   omega
 · refine ⟨_, cap, e1, by omega, e5, fun j x hx => ⟨g, rfl, e2, ?_, frozen_of e3 _, fun y => ?_⟩⟩
   · have hj := (List.getElem?_eq_some_iff.1 hx).1
     have f1 : (A.map Value.string)[j]? = some (Value.string x) := by rw [List.getElem?_map, hx]; rfl
     rw [cell_of e3]
     rw [← e7] at f1
     rw [List.getElem?_take_of_lt (by omega)] at f1
     simpa using f1
   · have h3 : w.ownsRow base 9 1 (.slice (some ⟨g, 0, none⟩) A.length cap) A.length (A.map Value.string) := by rw [← e1]; exact h'
     have h4 := (h3.stored j (.string y)).1
     unfold Nr
     rw [List.length_set, e1, List.map_set]
     exact h4
structure NmI (w wr : World) (v : Value) (A : List ByteArray) (P : List (ByteArray × Nat)) : Prop where
 row : Nr wr w.heap.size v A
 bel : Below w.heap.size w wr
 ord : (A.map bs).Pairwise (· ≤ ·)
 mem : A.Perm (P.map (·.1))
 nil : v = .slice none 0 0 ↔ A = []
theorem own_ge {w : World} {base : Nat} {e : TypeId} {sz n : Nat} {v : Value} {xs : List Value} (h : w.ownsRow base e sz v n xs) : ∀ k, v.ownBlock = some k → base ≤ k := by
 intro k hk
 obtain ⟨_, ⟨rfl, h0⟩ | ⟨g, cap, cur, rfl, hb, _⟩⟩ := h
 · cases hk
 · cases hk; exact hb
theorem step_app_at {P : Program} {w : World} {ops : Array Oper} {o : Oper} {a : Act} {K : Act → World → Prop} {Q : Exit → Act → World → Prop} {E : Prop} (hgd : o.guard = none) (s x : Operand) (t : TypeId)
  (ho : o.op = .call { callee := .builtin .append, args := #[s, x], argTypes := #[t, t] })
  (base : Nat) (e : TypeId) (i : TypeInfo) (z : Value) (bytes : Nat) (ht : P.underlying t = some (.slice e)) (hi : P.info? e = some i) (hz : i.zero = some z)
  (hsize : i.size = 2) (hby : i.bytes = bytes) (hzs : z.cells.size = 2)
  (v : Value) (n : Nat) (xs : List Value) (hs : a.eval s = v) (hown : w.ownsRow base e 2 v n xs)
  (ad : Addr) (m c : Nat) (news : List Value) (hx : a.eval x = .slice (some ad) m c) (hl : news.length = m * 2) (hnews : ∀ j u, news[j]? = some u → w.cell? (ad.add j) = some u) (h1 : ∀ u ∈ news, u.oneCell' = true)
  (h63 : n + m ≤ maxLen) (hbytes : (n + m) * bytes ≤ 140737488355328) (hbase : base ≤ w.heap.size)
  (h : ∀ v' w', w'.ownsRow base e 2 v' (n + m) (xs ++ news) → w.grownBy w' v.ownBlock → Below base w w' → K (a.put o.dst v') w') :
  if Region.wanted o (yielded ops a.tmps) = true then Oper.wp P o a w K Q else E := by
 have hw : Region.wanted o (yielded ops a.tmps) = true := by simp [Region.wanted, hgd]
 rw [if_pos hw]
 obtain ⟨v', w', hr, h2, h3, _⟩ := run_append_own_at (P := P) w base t o.type e i z 2 bytes ht hi hz hsize hby hzs (by decide) v n xs hown ad m c news hl hnews h1 h63 hbytes hbase
 unfold Oper.wp execOp
 simp only [ho, resolve, invoke, builtin, Sem.run_bind, Sem.run_pure, Result.andThen_ok, List.map_toArray, List.map_cons, List.map_nil, hs, hx, hr]
 exact h v' w' h2 h3 ((Below.refl _ _).grown h3 hbase (own_ge hown))
theorem own_slice {w : World} {base : Nat} {e : TypeId} {sz n : Nat} {v : Value} {xs : List Value} (h : w.ownsRow base e sz v n xs) : ∃ a n' cap, v = .slice a n' cap := by
 obtain ⟨_, ⟨rfl, h0⟩ | ⟨g, cap, cur, rfl, hb, _⟩⟩ := h
 · exact ⟨none, 0, 0, rfl⟩
 · exact ⟨_, _, _, rfl⟩
theorem flatE_take : ∀ (l : List (ByteArray × Nat)) (i : Nat), flatE (l.take i) = (flatE l).take (i * 2)
 | _, 0 => by simp [flatE]
 | [], i + 1 => by simp [flatE]
 | p :: l, i + 1 => by
   have ih := flatE_take l i
   unfold flatE at ih ⊢
   rw [List.take_succ_cons, List.flatMap_cons, List.flatMap_cons, ih, show (i + 1) * 2 = i * 2 + 1 + 1 by omega]
   rfl
theorem flatE_drop : ∀ (l : List (ByteArray × Nat)) (i : Nat), flatE (l.drop i) = (flatE l).drop (i * 2)
 | _, 0 => by simp [flatE]
 | [], i + 1 => by simp [flatE]
 | p :: l, i + 1 => by
   have ih := flatE_drop l i
   unfold flatE at ih ⊢
   rw [List.drop_succ_cons, List.flatMap_cons, ih, show (i + 1) * 2 = i * 2 + 1 + 1 by omega]
   rfl
theorem ent_of {w : World} {base n : Nat} {v : Value} {xs : List Value} (h : w.ownsRow base 148 2 v n xs) (m : RN) (l : List (ByteArray × Nat)) (hn : n = l.length) (hx : xs = flatE l) : EntAt w { m with sl := v, ents := l } := by
 subst hn; subst hx
 obtain ⟨h1, h2⟩ := h
 refine ⟨h1, ?_⟩
 rcases h2 with h2 | ⟨g, cap, cur, e1, _, e3⟩
 · exact .inl h2
 · exact .inr ⟨g, cap, cur, e1, Nat.zero_le _, e3⟩
theorem info_entry : (Tryz.prog.info? 148).map (fun i => (i.zero, i.size, i.bytes)) = some (some (.agg #[.string ⟨#[]⟩, .int .i64 0]), 2, 24) := by kernel_rfl
theorem own_empty (w : World) (e : TypeId) (base B : Nat) (hB : w.heap.size = B) (hb : base ≤ w.heap.size) : (w.alloc (.cells #[] e)).ownsRow base e 2 (.slice (some ⟨B, 0, none⟩) 0 0) 0 [] :=
 hB ▸ ⟨rfl, .inr ⟨w.heap.size, 0, #[], rfl, hb, alloc_heap _ _, Nat.le_refl _, by decide, rfl, rfl⟩⟩
theorem cells_take {w : World} {n : RN} (h : EntAt w n) {g cap : Nat} (hs : n.sl = .slice (some ⟨g, 0, none⟩) n.ents.length cap) (i : Nat) : ∀ j u, ((flatE n.ents).drop i)[j]? = some u → w.cell? (Addr.add ⟨g, i, none⟩ j) = some u := by
 obtain ⟨h1, h2⟩ := h
 intro j u hu
 rw [List.getElem?_drop] at hu
 have ha : Addr.add ⟨g, i, none⟩ j = ⟨g, i + j, none⟩ := by
  by_cases h : j = 0
  · subst h; simp [Addr.add]
  · simp [Addr.add, h]
 rw [ha]
 rcases h2 with ⟨e1, e2⟩ | ⟨g2, cap2, cur, e1, e2, e3, e4, e5, e6, e7⟩
 · rw [hs] at e1; cases e1
 · rw [hs] at e1
   obtain ⟨rfl, rfl⟩ : g = g2 ∧ cap = cap2 := by
    have := Value.slice.inj e1
    exact ⟨by have := this.1; simp at this; exact this, this.2.2⟩
   rw [cell_of e3]
   rw [← e7] at hu
   have hlt : i + j < n.ents.length * 2 := by
    have := (List.getElem?_eq_some_iff.1 hu).1
    rw [List.length_take] at this; omega
   rw [List.getElem?_take_of_lt hlt] at hu
   simpa using hu
def valAt (W : World) (a : Addr) : Value := (W.cell? a).getD undef
theorem valAt_some {W : World} {a : Addr} {v : Value} (h : W.cell? a = some v) : W.cell? a = some (valAt W a) := by unfold valAt; rw [h]; rfl
def Sx (w : World) (t B off : Nat) (W : World) : Prop := Mo B w W ∧ W.cell? ⟨t, 0, none⟩ = some (.slice (some ⟨B, 0, none⟩) 201 201) ∧ W.cell? ⟨B, off, none⟩ = some (valAt W ⟨B, off, none⟩) ∧ W.frozen? ⟨B, off, none⟩ = false
theorem Mo.grow {B : Nat} {w W W' : World} (h : Mo B w W) (hb : Below w.heap.size W W') : Mo B w W' :=
 ⟨hb.os.trans h.os, hb.tape.trans h.tape, hb.output.trans h.output, Nat.le_trans h.size hb.size, fun k hk hB => (hb.block k hk).trans (h.block k hk hB)⟩
theorem Sx.start {w : World} {t B : Nat} {G : Gt} (h : Rf w t B G) {off : Nat} {v : Value} (hc : w.cell? ⟨B, off, none⟩ = some v) : Sx w t B off w := ⟨Mo.refl _ _, h.cellT, valAt_some hc, h.frozen off⟩
theorem Sx.below {w W W' : World} {t B off : Nat} (hb : Below w.heap.size W W') (ht : t < w.heap.size) (hB : B < w.heap.size) (h : Sx w t B off W) : Sx w t B off W' := by
 obtain ⟨h1, h2, h3, h4⟩ := h
 refine ⟨h1.grow hb, ?_, ?_, ?_⟩
 · rw [hb.cell (p := ⟨t, 0, none⟩) ht]; exact h2
 · exact valAt_some (by rw [hb.cell (p := ⟨B, off, none⟩) hB]; exact h3)
 · rw [hb.frozen (p := ⟨B, off, none⟩) hB]; exact h4
theorem Sx.set {w W : World} {t B off : Nat} (hne : t ≠ B) (h : Sx w t B off W) (v : Value) : Sx w t B off (W.setCell ⟨B, off, none⟩ v) := by
 obtain ⟨h1, h2, h3, h4⟩ := h
 refine ⟨h1.set _, ?_, valAt_some (v := v) ?_, ?_⟩
 · rw [World.cell?_setCell_far _ _ _ _ (Ne.symm hne)]; exact h2
 · exact World.cell?_setCell_same _ _ _ h3
 · rw [World.frozen?_setCell]; exact h4
def WoP (w : World) (t B : Nat) (G : Gt) (k i : Nat) (w' : World) : Prop := ∃ v, Rf w' t B (updG G k { G k with sl := v, ents := (G k).ents.take i ++ (G k).ents.drop (i + 1) }) ∧ Mo B w w'
theorem rf_without {w : World} {t B : Nat} {G : Gt} (h : Rf w t B G) (k i : Nat) (hk : k ≤ 200) (hi : i < (G k).ents.length) (h40 : (G k).ents.length ≤ 40) :
  Calls Tryz.prog 122 #[.pointer (some ⟨t, 0, none⟩), .int .i64 (k : Int), .int .i64 (i : Int)] w fun e w' => e = .returned (.tuple #[]) ∧ WoP w t B G k i w' := by
 have c0 := h.cellT
 have b9 := h.c9 k hk
 have hent := h.ents k hk
 obtain ⟨a, cap, hs, hl1, hl2, hl3⟩ := hent.lit
 obtain ⟨g, rfl, _, _⟩ := hl3 i _ (List.getElem?_eq_getElem hi)
 rw [hs] at b9
 have H := Hd h
 have HENT := Hd hent
 have HSL := Hd hs
 have hcap : cap ≤ 9223372036854775807 := by unfold maxLen at hl2; omega
 have hBL := h.ltB
 have hTL := h.ltT
 obtain ⟨E, hE⟩ : ∃ E, E = (G k).ents := ⟨_, rfl⟩
 rw [← hE] at hi h40 hl1 b9
 obtain ⟨L, hL⟩ : ∃ L, L = E.length := ⟨_, rfl⟩
 rw [← hL] at hi h40 hl1 b9
 have HE := Hd hE
 have HL := Hd hL
 have n1 : k < 201 := by omega
 have n2 : (k : Int) < 201 := by omega
 have i1 : (i : Int) + 1 ≤ L := by omega
 have i2 : (i : Int) ≤ cap := by omega
 have i3 : (L : Int) ≤ cap := by omega
 have s9 := h.frozen (k * 10 + 9)
 obtain ⟨i0, hi0, hz0, hz1, hz2⟩ := info_parts info_entry
 have KP : ∀ W', Below w.heap.size w W' → W'.cell? ⟨t, 0, none⟩ = some (.slice (some ⟨B, 0, none⟩) 201 201) ∧ W'.cell? ⟨B, k * 10 + 9, none⟩ = some (.slice (some ⟨g, 0, none⟩) L cap) ∧ W'.frozen? ⟨B, k * 10 + 9, none⟩ = false := fun W' hb => ⟨(H.out.below hb).cellT, by rw [(H.out.below hb).c9 k hk, HSL.out, HL.out, HE.out], (H.out.below hb).frozen _⟩
 clear h hent hs hl2 hl3 hE hL
 have HKP := Hd KP
 clear KP
 have HN1 : Hid (∀ W', Mo B w W' → ∀ j u, ((flatE E).take (i * 2))[j]? = some u → W'.cell? (Addr.add ⟨g, 0, none⟩ j) = some u) := Hd (fun W' hb j u hu => by
  have h2 := cells_take (HENT.out.same (w' := W') fun g C f hg => hb.block g (lt_of_heap hg) (fun e => by subst e; have := hg.symm.trans H.out.row; simp at this)) HSL.out 0 j u
  rw [← HE.out, List.drop_zero] at h2
  refine h2 ?_
  rw [List.getElem?_take] at hu
  split at hu
  · exact hu
  · cases hu)
 have HN2 : Hid (∀ W', Mo B w W' → ∀ j u, ((flatE E).drop ((i + 1) * 2))[j]? = some u → W'.cell? (Addr.add ⟨g, (i + 1) * 2, none⟩ j) = some u) := Hd (fun W' hb j u hu => by
  have h2 := cells_take (HENT.out.same (w' := W') fun g C f hg => hb.block g (lt_of_heap hg) (fun e => by subst e; have := hg.symm.trans H.out.row; simp at this)) HSL.out ((i + 1) * 2) j u
  rw [← HE.out] at h2
  exact h2 hu)
 by_cases hic : i + 1 = cap
 · have hnil : (flatE E).drop ((i + 1) * 2) = [] := List.drop_of_length_le (by rw [flatE_len, ← HL.out]; omega)
   have HNIL := Hd hnil
   obtain rfl : L = i + 1 := by omega
   obtain rfl : cap = i + 1 := by omega
   have w1 : IntKind.i64.wrap ((i : Int) + 1) = (i : Int) + 1 := IntWalk.i64_in _ (by omega)
   have w2 : (0 : Int) ≤ (i : Int) + 1 := by omega
   have w3 : ((i : Int) + 1).toNat = i + 1 := by omega
   have w4 : (0 : Int) ≤ (i : Int) := by omega
   have w5 : (i : Int) ≤ (i : Int) + 1 := by omega
   clear hnil hic i1 i2 i3
   go_enter Tryz.func122, Tryz.ntmps122
   go_wp2_with fail
   have hTB := H.out.ne
   go_region_held3 (fun W' => Mo B w W' ∧ W'.cell? ⟨t, 0, none⟩ = some (.slice (some ⟨B, 0, none⟩) 201 201) ∧ W'.cell? ⟨B, k * 10 + 9, none⟩ = some (valAt W' ⟨B, k * 10 + 9, none⟩) ∧ W'.frozen? ⟨B, k * 10 + 9, none⟩ = false)
    (first
      | exact Sx.below (Below.refl _ _).drew hTL hBL (Sx.start H.out (H.out.c9 k hk))
      | exact Sx.below hbel8 hTL hBL ‹Mo B w _ ∧ _›
      | exact Sx.below hbel5 hTL hBL ‹Mo B w _ ∧ _›
      | exact Sx.set hTB ‹Mo B w _ ∧ _› _
      | exact Sx.below ((Below.refl _ _).alloc (‹Mo B w _ ∧ _›).1.size _) hTL hBL ‹Mo B w _ ∧ _›)
    (first
      | (refine step_app_at rfl (.tmp 20) (.tmp 23) 110 rfl w.heap.size 148 i0 (.agg #[.string ⟨#[]⟩, .int .i64 0]) 24 Tryz.underlying110 hi0 hz0 hz1 hz2 rfl (.slice (some ⟨w.heap.size, 0, none⟩) 0 0) 0 [] ?_ ?_ ⟨g, 0, none⟩ i (i + 1) ((flatE E).take (i * 2)) ?_ ?_ ?_ ?_ ?_ ?_ ?_ ?_
         · simp [Act.eval, Act.put]; done
         · exact (own_empty w _ _ _ rfl (Nat.le_refl _)).drew
         · simp [Act.eval, Act.put]; done
         · exact by rw [List.length_take, flatE_len, ← HL.out]; omega
         · exact HN1.out _ (‹Mo B w _ ∧ _›).1
         · exact fun u hu => flatE_one _ u (List.mem_of_mem_take hu)
         · unfold maxLen; omega
         · omega
         · exact (‹Mo B w _ ∧ _›).1.size
         intro v5 w5 hown5 hgrow5 hbel5
         have hB5 : Below w.heap.size w w5 := Below.trans (((Below.refl _ _).alloc (Nat.le_refl _) _).drew) hbel5)
      | (refine step_app_at rfl (.tmp 24) (.tmp 28) 110 rfl w.heap.size 148 i0 (.agg #[.string ⟨#[]⟩, .int .i64 0]) 24 Tryz.underlying110 hi0 hz0 hz1 hz2 rfl v5 (0 + i) ([] ++ (flatE E).take (i * 2)) ?_ ?_ ⟨g, 0, none⟩ ((i + 1) - (i + 1)) ((i + 1) - (i + 1)) ((flatE E).drop ((i + 1) * 2)) ?_ ?_ ?_ ?_ ?_ ?_ ?_ ?_
         · simp [Act.eval, Act.put]; done
         · exact hown5
         · simp [Act.eval, Act.put]; done
         · exact by rw [List.length_drop, flatE_len, ← HL.out]; omega
         · exact fun j u hu => by rw [HNIL.out] at hu; cases hu
         · exact fun u hu => flatE_one _ u (List.mem_of_mem_drop hu)
         · unfold maxLen; omega
         · omega
         · exact (‹Mo B w _ ∧ _›).1.size
         intro v8 w8 hown8 hgrow8 hbel8
         have hB8 : Below w.heap.size w w8 := hB5.trans hbel8
         obtain ⟨a8, n8, c8, rfl⟩ := own_slice hown8))
   all_goals
    have hRF := Hd ((H.out.below hB8).set hk (show 9 < 10 by omega) (.slice a8 n8 c8) { G k with sl := .slice a8 n8 c8, ents := E.take i ++ E.drop (i + 1) } rfl (ent_of hown8 (G k) (E.take i ++ E.drop (i + 1)) (by rw [List.length_append, List.length_take, List.length_drop, ← HL.out]; omega) (by rw [flatE_app, flatE_take, flatE_drop, List.nil_append])))
    have hMO := Hd ((Mo.of (b := B) hB8).set (i := k * 10 + 9) (.slice a8 n8 c8))
    clear hown8 hgrow8 hbel8 hB8 hown5 hgrow5 hbel5 hB5
    go_wp2
    refine bodyPost_end (results_none rfl _ _ _) rfl ⟨rfl, .slice a8 n8 c8, ?_, ?_⟩
    · rw [← HE.out]; exact hRF.out
    · exact hMO.out
 · have j1 : (i : Int) + 1 < cap := by omega
   have j2 : i + 1 < cap := by omega
   have j3 : ¬ cap = i + 1 := by omega
   have w1 : IntKind.i64.wrap ((i : Int) + 1) = (i : Int) + 1 := IntWalk.i64_in _ (by omega)
   have w2 : (0 : Int) ≤ (i : Int) + 1 := by omega
   have w3 : ((i : Int) + 1).toNat = i + 1 := by omega
   have w4 : (0 : Int) ≤ (i : Int) := by omega
   clear hic
   go_enter Tryz.func122, Tryz.ntmps122
   go_wp2_with fail
   have hTB := H.out.ne
   go_region_held3 (fun W' => Mo B w W' ∧ W'.cell? ⟨t, 0, none⟩ = some (.slice (some ⟨B, 0, none⟩) 201 201) ∧ W'.cell? ⟨B, k * 10 + 9, none⟩ = some (valAt W' ⟨B, k * 10 + 9, none⟩) ∧ W'.frozen? ⟨B, k * 10 + 9, none⟩ = false)
    (first
      | exact Sx.below (Below.refl _ _).drew hTL hBL (Sx.start H.out (H.out.c9 k hk))
      | exact Sx.below hbel8 hTL hBL ‹Mo B w _ ∧ _›
      | exact Sx.below hbel5 hTL hBL ‹Mo B w _ ∧ _›
      | exact Sx.set hTB ‹Mo B w _ ∧ _› _
      | exact Sx.below ((Below.refl _ _).alloc (‹Mo B w _ ∧ _›).1.size _) hTL hBL ‹Mo B w _ ∧ _›)
    (first
      | (refine step_app_at rfl (.tmp 20) (.tmp 23) 110 rfl w.heap.size 148 i0 (.agg #[.string ⟨#[]⟩, .int .i64 0]) 24 Tryz.underlying110 hi0 hz0 hz1 hz2 rfl (.slice (some ⟨w.heap.size, 0, none⟩) 0 0) 0 [] ?_ ?_ ⟨g, 0, none⟩ i cap ((flatE E).take (i * 2)) ?_ ?_ ?_ ?_ ?_ ?_ ?_ ?_
         · simp [Act.eval, Act.put]; done
         · exact (own_empty w _ _ _ rfl (Nat.le_refl _)).drew
         · simp [Act.eval, Act.put]; done
         · exact by rw [List.length_take, flatE_len, ← HL.out]; omega
         · exact HN1.out _ (‹Mo B w _ ∧ _›).1
         · exact fun u hu => flatE_one _ u (List.mem_of_mem_take hu)
         · unfold maxLen; omega
         · omega
         · exact (‹Mo B w _ ∧ _›).1.size
         intro v5 w5 hown5 hgrow5 hbel5
         have hB5 : Below w.heap.size w w5 := Below.trans (((Below.refl _ _).alloc (Nat.le_refl _) _).drew) hbel5)
      | (refine step_app_at rfl (.tmp 24) (.tmp 28) 110 rfl w.heap.size 148 i0 (.agg #[.string ⟨#[]⟩, .int .i64 0]) 24 Tryz.underlying110 hi0 hz0 hz1 hz2 rfl v5 (0 + i) ([] ++ (flatE E).take (i * 2)) ?_ ?_ ⟨g, (i + 1) * 2, none⟩ (L - (i + 1)) (cap - (i + 1)) ((flatE E).drop ((i + 1) * 2)) ?_ ?_ ?_ ?_ ?_ ?_ ?_ ?_
         · simp [Act.eval, Act.put]; done
         · exact hown5
         · simp [Act.eval, Act.put]; done
         · exact by rw [List.length_drop, flatE_len, ← HL.out]; omega
         · exact HN2.out _ (‹Mo B w _ ∧ _›).1
         · exact fun u hu => flatE_one _ u (List.mem_of_mem_drop hu)
         · unfold maxLen; omega
         · omega
         · exact (‹Mo B w _ ∧ _›).1.size
         intro v8 w8 hown8 hgrow8 hbel8
         have hB8 : Below w.heap.size w w8 := hB5.trans hbel8
         obtain ⟨a8, n8, c8, rfl⟩ := own_slice hown8))
   all_goals
    have hRF := Hd ((H.out.below hB8).set hk (show 9 < 10 by omega) (.slice a8 n8 c8) { G k with sl := .slice a8 n8 c8, ents := E.take i ++ E.drop (i + 1) } rfl (ent_of hown8 (G k) (E.take i ++ E.drop (i + 1)) (by rw [List.length_append, List.length_take, List.length_drop, ← HL.out]; omega) (by rw [flatE_app, flatE_take, flatE_drop, List.nil_append])))
    have hMO := Hd ((Mo.of (b := B) hB8).set (i := k * 10 + 9) (.slice a8 n8 c8))
    clear hown8 hgrow8 hbel8 hB8 hown5 hgrow5 hbel5 hB5
    go_wp2
    refine bodyPost_end (results_none rfl _ _ _) rfl ⟨rfl, .slice a8 n8 c8, ?_, ?_⟩
    · rw [← HE.out]; exact hRF.out
    · exact hMO.out
theorem NmI.step {w wr W : World} {v v0 : Value} {A : List ByteArray} {E : List (ByteArray × Nat)} {i k : Nat} {p : ByteArray × Nat} {x : ByteArray} (h : NmI w wr v0 A (E.take i)) (hrow : Nr W w.heap.size v (A.take k ++ x :: A.drop k)) (hb : Below w.heap.size w W) (hp : E[i]? = some p) (hx : p.1 = x) (hk : k ≤ A.length) (hd : ∀ y ∈ A.drop k, bs x < bs y) (ht : k = 0 ∨ ∃ y, A[k - 1]? = some y ∧ ¬ bs x < bs y) (hv : v ≠ .slice none 0 0) : NmI w W v (A.take k ++ x :: A.drop k) (E.take (i + 1)) where
 row := hrow
 bel := hb
 ord := by
  rw [List.map_append, List.map_cons, List.map_take, List.map_drop]
  refine ins_sorted h.ord (by rw [List.length_map]; exact hk) (fun y hy => ?_) ?_
  · rw [← List.map_drop] at hy
    obtain ⟨z, hz, rfl⟩ := List.mem_map.1 hy
    exact hd z hz
  · rcases ht with e | ⟨y, e1, e2⟩
    · exact .inl e
    · exact .inr ⟨bs y, by rw [List.getElem?_map, e1]; rfl, e2⟩
 mem := by
  refine (ins_perm A x k).trans ?_
  rw [List.take_add_one, hp, List.map_append]
  subst hx
  exact List.Perm.append_right _ h.mem
 nil := ⟨fun e => absurd e hv, fun e => by simp at e⟩
end Go.Proofs.YtafonmnfeibaiaaGreat.RF
namespace Go.Proofs.YtafonmnfeibaiaaGreat
open Go.RowKit
def Sl (w : World) (v : Value) (l : List ByteArray) : Prop :=
 ∃ a cap, v = .slice a l.length cap ∧ ∀ j (h : j < l.length), ∃ b off, a = some ⟨b, off, none⟩ ∧ w.cell? ⟨b, off + j, none⟩ = some (.string l[j])
theorem Sl.of_own {w : World} {base : Nat} {v : Value} {l : List ByteArray} (h : w.ownsRow base 9 1 v l.length (l.map .string)) : Sl w v l := by
 obtain ⟨_, ⟨rfl, h0⟩ | ⟨g, cap, cur, rfl, hb, hh, hn, hc, hs, ht⟩⟩ := h
 · exact ⟨none, 0, by rw [h0], fun j hj => by omega⟩
 · refine ⟨_, cap, rfl, fun j hj => ⟨g, 0, rfl, ?_⟩⟩
   have h1 : (l.map Value.string)[j]? = some (.string l[j]) := by simp [hj]
   rw [← ht, List.getElem?_take] at h1
   rw [if_pos (by omega)] at h1
   simpa [World.cell?, hh] using h1
theorem same_eq (w : World) (v u : Value) (l : List ByteArray) (h : Sl w v l) (g : Sl w u l) (hl : l.length ≤ 1000000) :
  Calls Tryz.prog 27 #[v, u] w fun e w' => e = .returned (.bool true) ∧ ∃ k, w' = w.drewN k := by
 obtain ⟨a, ca, rfl, ha⟩ := h
 obtain ⟨b, cb, rfl, hb⟩ := g
 have HA := Hd ha
 have HB := Hd hb
 have hl1 : (l.length : Int) ≤ 1000000 := by omega
 clear ha hb
 go_enter Tryz.func27, Tryz.ntmps27
 go_wp2
 go_loopw [5] (fun i wr => ∃ k q : Nat, k ≤ l.length ∧ i = .int .i64 k ∧ wr = w.drewN q) (fun i _ => l.length - (intOf i).toNat)
 case atStart => exact ⟨0, 0, Nat.zero_le _, rfl, rfl⟩
 case round =>
  obtain ⟨k, q, hk, rfl, rfl⟩ := hrel
  by_cases hlt : k < l.length
  · obtain ⟨ba, oa, rfl, hca⟩ := HA.out k hlt
    obtain ⟨bb, ob, rfl, hcb⟩ := HB.out k hlt
    generalize l[k] = x at hca hcb
    have hlt1 : (k : Int) < l.length := by omega
    go_wp2
    go_quiet (fail)
    go_wp2
    go_roundw
    case rel => exact ⟨k + 1, q + nq, by omega, by go_num, rfl⟩
    case measure => simp [intOf]; omega
  · go_wp2
    go_ret
    exact ⟨rfl, _, rfl⟩
theorem Sl.names {w : World} {base : Nat} {T : IT.Tr} {k : Nat} {v : Value} (h : w.ownsRow base 9 1 v (namesT T k).length ((namesT T k).map encStr)) : Sl w v ((namesT T k).map tx) := by
 refine Sl.of_own (base := base) ?_
 rw [List.length_map, List.map_map]
 exact h
theorem Sl.below {w w' : World} {v : Value} {l : List ByteArray} (h : Sl w v l) (hb : Below w.heap.size w w') : Sl w' v l := by
 obtain ⟨a, cap, e, hc⟩ := h
 refine ⟨a, cap, e, fun j hj => ?_⟩
 obtain ⟨b, off, e1, e2⟩ := hc j hj
 exact ⟨b, off, e1, (hb.cell (p := ⟨b, off + j, none⟩) (World.block_lt_of_cell? w ⟨b, off + j, none⟩ e2)).trans e2⟩
theorem eqF_same {P : Program} (ht : P.underlying 3 = some (.int .i64)) (w : World) (d : Nat) (xs : Array Value) : ∀ fs : List Field, (∀ f ∈ fs, f.type = 3 ∧ ∃ i : Int, (part f.type xs f.offset).run P w = .ok (.int .i64 i) w) → (Op.eqFields (d + 1) xs xs fs).run P w = .ok true w
 | [], _ => by rw [Op.eqFields]; rfl
 | f :: fs, h => by
   obtain ⟨h1, i, h2⟩ := h f (List.mem_cons_self ..)
   have ih := eqF_same ht w d xs fs (fun g hg => h g (List.mem_cons_of_mem _ hg))
   have h3 := run_equalIn_int w d f.type .i64 .i64 i i (by rw [h1]; exact ht)
   rw [Op.eqFields]
   by_cases hn : f.name ≠ "_"
   · rw [if_pos hn]
     simp [h2, h3, ih]
   · rw [if_neg hn]; exact ih
theorem info_fields : (Tryz.prog.fieldsOf 44).toList.all (fun f => decide (f.type = 3 ∧ f.offset < 8)) = true := by kernel_rfl
theorem info_eqin (w : World) (i0 i1 i2 i3 i4 i5 i6 i7 : Int) : (Op.equalIn 10000 44 (.agg #[.int .i64 i0, .int .i64 i1, .int .i64 i2, .int .i64 i3, .int .i64 i4, .int .i64 i5, .int .i64 i6, .int .i64 i7]) (.agg #[.int .i64 i0, .int .i64 i1, .int .i64 i2, .int .i64 i3, .int .i64 i4, .int .i64 i5, .int .i64 i6, .int .i64 i7])).run Tryz.prog w = .ok true w := by
 rw [run_equalIn_struct w 9999 44 _ _ (by kernel_rfl) (by kernel_rfl), eqF_same Tryz.underlying3 w 9998]
 intro f hf
 have := List.all_eq_true.1 info_fields f hf
 obtain ⟨e1, e2⟩ := of_decide_eq_true this
 refine ⟨e1, ?_⟩
 rw [e1]
 have key : ∀ o, o < 8 → ∃ i : Int, (part 3 #[.int .i64 i0, .int .i64 i1, .int .i64 i2, .int .i64 i3, .int .i64 i4, .int .i64 i5, .int .i64 i6, .int .i64 i7] o).run Tryz.prog w = .ok (.int .i64 i) w := fun o ho => by
  obtain rfl | rfl | rfl | rfl | rfl | rfl | rfl | rfl : o = 0 ∨ o = 1 ∨ o = 2 ∨ o = 3 ∨ o = 4 ∨ o = 5 ∨ o = 6 ∨ o = 7 := by omega
  · exact ⟨i0, by kernel_rfl⟩
  · exact ⟨i1, by kernel_rfl⟩
  · exact ⟨i2, by kernel_rfl⟩
  · exact ⟨i3, by kernel_rfl⟩
  · exact ⟨i4, by kernel_rfl⟩
  · exact ⟨i5, by kernel_rfl⟩
  · exact ⟨i6, by kernel_rfl⟩
  · exact ⟨i7, by kernel_rfl⟩
 exact key _ e2
theorem info_same (w : World) (i0 i1 i2 i3 i4 i5 i6 i7 : Int) : (binOp .eql 44 (.agg #[.int .i64 i0, .int .i64 i1, .int .i64 i2, .int .i64 i3, .int .i64 i4, .int .i64 i5, .int .i64 i6, .int .i64 i7]) (.agg #[.int .i64 i0, .int .i64 i1, .int .i64 i2, .int .i64 i3, .int .i64 i4, .int .i64 i5, .int .i64 i6, .int .i64 i7])).run Tryz.prog w = .ok (.bool true) w := by
 rw [run_eql_struct, info_eqin]; rfl
theorem info_neq (w : World) (i0 i1 i2 i3 i4 i5 i6 i7 : Int) : (binOp .neq 44 (.agg #[.int .i64 i0, .int .i64 i1, .int .i64 i2, .int .i64 i3, .int .i64 i4, .int .i64 i5, .int .i64 i6, .int .i64 i7]) (.agg #[.int .i64 i0, .int .i64 i1, .int .i64 i2, .int .i64 i3, .int .i64 i4, .int .i64 i5, .int .i64 i6, .int .i64 i7])).run Tryz.prog w = .ok (.bool false) w := by
 rw [run_neq_struct, info_eqin]; rfl
theorem statV_ints (T : IT.Tr) (k : Nat) : ∃ i0 i1 i2 i3 i4 i5 i6 i7 : Int, statV T k = .agg #[.int .i64 i0, .int .i64 i1, .int .i64 i2, .int .i64 i3, .int .i64 i4, .int .i64 i5, .int .i64 i6, .int .i64 i7] := by
 unfold statV
 cases T k with
 | none => exact ⟨_, _, _, _, _, _, _, _, rfl⟩
 | some m => exact ⟨_, _, _, _, _, _, _, _, rfl⟩
end Go.Proofs.YtafonmnfeibaiaaGreat
namespace Go.Proofs.YtafonmnfeibaiaaGreat.RF
open Go.RowKit
theorem run_app_row2 {P : Program} (w : World) (t ty : TypeId) (base : Nat) (e : TypeId) (i : TypeInfo) (z : Value) (bytes : Nat) (ht : P.underlying t = some (.slice e)) (hi : P.info? e = some i) (hz : i.zero = some z)
  (hsize : i.size = 2) (hby : i.bytes = bytes) (hzs : z.cells.size = 2)
  (v : Value) (n : Nat) (xs : List Value) (hown : w.ownsRow base e 2 v n xs)
  (bu : Nat) (u : Value) (m : Nat) (news : List Value) (hu : w.ownsRow bu e 2 u m news) (h1 : ∀ u ∈ news, u.oneCell' = true)
  (h63 : n + m ≤ maxLen) (hbytes : (n + m) * bytes ≤ 140737488355328) (hbase : base ≤ w.heap.size) :
  ∃ v' w', (Builtin.append_ #[t, t] ty #[v, u]).run P w = .ok v' w' ∧ w'.ownsRow base e 2 v' (n + m) (xs ++ news) ∧ w.grownBy w' v.ownBlock := by
 rcases hu.2 with ⟨rfl, h0⟩ | ⟨g, cap, cur, rfl, hb, hh, hn, hc, hs, htk⟩
 · subst h0
   have hnil : news = [] := List.eq_nil_of_length_eq_zero (by rw [hu.1])
   subst hnil
   exact ⟨v, w, run_append_owned_none (P := P) w base t ty e i 2 ht hi v n xs hown, by simpa using hown, World.grownBy.refl _ _⟩
 · obtain ⟨v', w', hr, h2, h3, _, _⟩ := run_append_own_at (P := P) w base t ty e i z 2 bytes ht hi hz hsize hby hzs (by decide) v n xs hown ⟨g, 0, none⟩ m cap news hu.1 (hu.cells rfl) h1 h63 hbytes hbase
   exact ⟨v', w', hr, h2, h3⟩
theorem step_app_row2 {P : Program} {w : World} {ops : Array Oper} {o : Oper} {a : Act} {K : Act → World → Prop} {Q : Exit → Act → World → Prop} {E : Prop} (hgd : o.guard = none) (s x : Operand) (t : TypeId)
  (ho : o.op = .call { callee := .builtin .append, args := #[s, x], argTypes := #[t, t] })
  (base : Nat) (e : TypeId) (i : TypeInfo) (z : Value) (bytes : Nat) (ht : P.underlying t = some (.slice e)) (hi : P.info? e = some i) (hz : i.zero = some z)
  (hsize : i.size = 2) (hby : i.bytes = bytes) (hzs : z.cells.size = 2)
  (v : Value) (n : Nat) (xs : List Value) (hs : a.eval s = v) (hown : w.ownsRow base e 2 v n xs)
  (bu : Nat) (u : Value) (m : Nat) (news : List Value) (hx : a.eval x = u) (hu : w.ownsRow bu e 2 u m news) (h1 : ∀ u ∈ news, u.oneCell' = true)
  (h63 : n + m ≤ maxLen) (hbytes : (n + m) * bytes ≤ 140737488355328) (hbase : base ≤ w.heap.size)
  (h : ∀ v' w', w'.ownsRow base e 2 v' (n + m) (xs ++ news) → w.grownBy w' v.ownBlock → Below base w w' → K (a.put o.dst v') w') :
  if Region.wanted o (yielded ops a.tmps) = true then Oper.wp P o a w K Q else E := by
 have hw : Region.wanted o (yielded ops a.tmps) = true := by simp [Region.wanted, hgd]
 rw [if_pos hw]
 obtain ⟨v', w', hr, h2, h3⟩ := run_app_row2 (P := P) w t o.type base e i z bytes ht hi hz hsize hby hzs v n xs hown bu u m news hu h1 h63 hbytes hbase
 unfold Oper.wp execOp
 simp only [ho, resolve, invoke, builtin, Sem.run_bind, Sem.run_pure, Result.andThen_ok, List.map_toArray, List.map_cons, List.map_nil, hs, hx, hr]
 exact h v' w' h2 h3 ((Below.refl _ _).grown h3 hbase (own_ge hown))
theorem _root_.Go.World.ownsRow.below2 {W w : World} {base n : Nat} {e : TypeId} {v : Value} {xs : List Value} (h : W.ownsRow base e 2 v n xs) (hb : Below W.heap.size W w) : w.ownsRow base e 2 v n xs := by
 obtain ⟨h1, ⟨h2, h3⟩ | ⟨g, cap, cur, h2, hg, hh, rest⟩⟩ := h
 · exact ⟨h1, .inl ⟨h2, h3⟩⟩
 · exact ⟨h1, .inr ⟨g, cap, cur, h2, hg, (hb.block g (lt_of_heap hh)).trans hh, rest⟩⟩
theorem own_one (w : World) (e : TypeId) (B : Nat) (a b : Value) (hB : w.heap.size = B) : (w.alloc (.cells #[a, b] e)).ownsRow 0 e 2 (.slice (some ⟨B, 0, none⟩) 1 1) 1 [a, b] :=
 hB ▸ ⟨rfl, .inr ⟨w.heap.size, 1, #[a, b], rfl, Nat.zero_le _, alloc_heap _ _, Nat.le_refl _, by decide, rfl, rfl⟩⟩
theorem cell_block {w w' : World} {b : Nat} (h : w'.heap[b]? = w.heap[b]?) (i : Nat) : w'.cell? ⟨b, i, none⟩ = w.cell? ⟨b, i, none⟩ := by
 simp [World.cell?, h]
def Sy (w : World) (t B off : Nat) (W : World) : Prop := Mo B w W ∧ W.cell? ⟨t, 0, none⟩ = some (.slice (some ⟨B, 0, none⟩) 201 201) ∧ W.frozen? ⟨B, off, none⟩ = false
theorem Sy.start {w : World} {t B : Nat} {G : Gt} (h : Rf w t B G) (off : Nat) : Sy w t B off w := ⟨Mo.refl _ _, h.cellT, h.frozen off⟩
theorem Sy.below {w W W' : World} {t B off : Nat} (hb : Below w.heap.size W W') (ht : t < w.heap.size) (hB : B < w.heap.size) (h : Sy w t B off W) : Sy w t B off W' := by
 obtain ⟨h1, h2, h4⟩ := h
 refine ⟨h1.grow hb, ?_, ?_⟩
 · rw [hb.cell (p := ⟨t, 0, none⟩) ht]; exact h2
 · rw [hb.frozen (p := ⟨B, off, none⟩) hB]; exact h4
theorem Sy.set {w W : World} {t B off : Nat} (hne : t ≠ B) (h : Sy w t B off W) (v : Value) : Sy w t B off (W.setCell ⟨B, off, none⟩ v) := by
 obtain ⟨h1, h2, h4⟩ := h
 refine ⟨h1.set _, ?_, ?_⟩
 · rw [World.cell?_setCell_far _ _ _ _ (Ne.symm hne)]; exact h2
 · rw [World.frozen?_setCell]; exact h4
theorem EntAt.mo {w W : World} {t B : Nat} {G : Gt} (h : Rf w t B G) {n : RN} (he : EntAt w n) (hm : Mo B w W) : EntAt W n :=
 he.same fun g C f hg => hm.block g (lt_of_heap hg) (fun e => by subst e; have := hg.symm.trans h.row; simp at this)
end Go.Proofs.YtafonmnfeibaiaaGreat.RF
namespace Go.Proofs.YtafonmnfeibaiaaGreat
open Go.RowKit
theorem sz (s : ByteArray) : s.data.toList.length = s.size := by simp
theorem data_get (s : ByteArray) (j : Nat) (h : j < s.size) : s.data[j]! = s[j] := by
 have h1 : j < s.data.size := h
 rw [getElem!_pos s.data j h1]; rfl
theorem toList_get (s : ByteArray) (j : Nat) (h : j < s.data.toList.length) : s.data.toList[j] = s.data[j]! := by
 have h1 : j < s.data.size := by simpa using h
 rw [getElem!_pos s.data j h1]; simp
theorem contains_idx (l : List UInt8) (c : UInt8) : l.contains c = decide (0 ≤ Lib.indexByte l c) := by
 rw [Bool.eq_iff_iff]
 simp only [List.contains_iff_mem, decide_eq_true_eq]
 constructor
 · intro hm
   have h1 := Lib.indexByte_ge l c
   rcases Int.lt_or_le (Lib.indexByte l c) 0 with h | h
   · obtain ⟨k, hk, he⟩ := List.getElem_of_mem hm
     exact absurd (by rw [List.getElem?_eq_getElem hk, he]) (Lib.indexByte_none (by omega) k)
   · exact h
 · intro h
   obtain ⟨i, hi⟩ : ∃ i : Nat, Lib.indexByte l c = i := ⟨(Lib.indexByte l c).toNat, by omega⟩
   exact List.mem_of_getElem? (Lib.indexByte_some hi).1
theorem nameB_iff (s : ByteArray) : nameB s = true ↔ (¬ s.data.toList = [] ∧ s.size ≤ 14 ∧ ¬ s.data.toList = [46] ∧ ¬ s.data.toList = [46, 46] ∧ plainB s.data.toList = true ∧ 47 ∉ s.data.toList) := by
 simp only [nameB, decide_eq_true_eq]
 have := contains_idx s.data.toList 47
 rw [Bool.eq_iff_iff] at this
 simp only [List.contains_iff_mem, decide_eq_true_eq] at this
 rw [this]
theorem nameB_neg (s : ByteArray) (j : Nat) (hj : j < s.size) (h : s[j].toNat < 32 ∨ s[j].toNat = 127 ∨ s[j].toNat = 47) : nameB s = false := by
 rw [Bool.eq_false_iff]
 intro hn
 obtain ⟨_, _, _, _, hp, hno⟩ := (nameB_iff s).1 hn
 by_cases h1 : s[j].toNat < 32 ∨ s[j].toNat = 127
 · have : okc s[j] = false := by simp [okc]; omega
   rw [plain_bad s j hj this] at hp; cases hp
 · refine hno ?_
   have e : s[j] = 47 := UInt8.toNat_inj.1 (by have e : (47 : UInt8).toNat = 47 := rfl; omega)
   have : s.data.toList[j]'(by rw [sz]; exact hj) = 47 := by rw [toList_get, data_get s j hj, e]
   rw [← this]; exact List.getElem_mem _
theorem rname_any (s : ByteArray) (w : World) :
  Calls Tryz.prog 123 #[.string s] w fun e w' => e = .returned (.bool (nameB s)) ∧ w = w' := by
 by_cases h1 : s.size < 1
 · have HN : Hid (nameB s = false) := Hd (by
    rw [Bool.eq_false_iff]; intro hn
    have := (nameB_iff s).1 hn
    exact this.1 (List.eq_nil_of_length_eq_zero (by rw [sz]; omega)))
   have h11 : (s.size : Int) < 1 := by omega
   go_enter Tryz.func123, Tryz.ntmps123
   go_wp2
   go_ret
   exact ⟨ret_bool HN.out.symm, rfl⟩
 have h11 : ¬ (s.size : Int) < 1 := by omega
 by_cases h2 : 14 < s.size
 · have HN : Hid (nameB s = false) := Hd (by
    rw [Bool.eq_false_iff]; intro hn
    have := (nameB_iff s).1 hn
    omega)
   have h21 : (14 : Int) < s.size := by omega
   go_enter Tryz.func123, Tryz.ntmps123
   go_wp2
   go_ret
   exact ⟨ret_bool HN.out.symm, rfl⟩
 have h21 : ¬ (14 : Int) < s.size := by omega
 by_cases h3 : s.data.toList = [46]
 · have HN : Hid (nameB s = false) := Hd (by
    rw [Bool.eq_false_iff]; intro hn
    exact ((nameB_iff s).1 hn).2.2.1 h3)
   have h31 : s.toList = [46] := by rw [toList_data]; exact h3
   clear h3
   go_enter Tryz.func123, Tryz.ntmps123
   go_wp2
   go_ret
   exact ⟨ret_bool HN.out.symm, rfl⟩
 have h31 : (s.toList == [46]) = false := by rw [toList_data]; simpa using h3
 by_cases h4 : s.data.toList = [46, 46]
 · have HN : Hid (nameB s = false) := Hd (by
    rw [Bool.eq_false_iff]; intro hn
    exact ((nameB_iff s).1 hn).2.2.2.1 h4)
   have h41 : s.toList = [46, 46] := by rw [toList_data]; exact h4
   clear h3 h4
   go_enter Tryz.func123, Tryz.ntmps123
   go_wp2
   go_ret
   exact ⟨ret_bool HN.out.symm, rfl⟩
 have h41 : (s.toList == [46, 46]) = false := by rw [toList_data]; simpa using h4
 have H3 := Hd h3
 have H4 := Hd h4
 clear h3 h4
 go_enter Tryz.func123, Tryz.ntmps123
 go_wp2
 go_loop [3] (fun i => ∃ k : Nat, k ≤ s.size ∧ i = .int .i64 k ∧ plainB (s.data.toList.take k) = true ∧ (∀ j (h : j < s.size), j < k → s[j].toNat ≠ 47)) (fun i => s.size - (intOf i).toNat)
 case atStart => exact ⟨0, Nat.zero_le _, rfl, rfl, fun j _ h => by omega⟩
 case round =>
  obtain ⟨k, hk, rfl, hp, hq⟩ := hrel
  have HP := Hd hp
  have HQ := Hd hq
  clear hp hq
  by_cases hlt : k < s.size
  · have HB := Hd (fun h => nameB_neg s k hlt h)
    by_cases g1 : (s[k].toNat : Int) < 32
    · go_wp2
      go_ret
      exact ⟨ret_bool (HB.out (.inl (by omega))).symm, rfl⟩
    by_cases g2 : ((s[k].toNat : Int) == 127) = true
    · go_wp2
      go_ret
      exact ⟨ret_bool (HB.out (.inr (.inl (by simp at g2; omega)))).symm, rfl⟩
    by_cases g3 : ((s[k].toNat : Int) == 47) = true
    · have g2' : ((s[k].toNat : Int) == 127) = false := by simpa using g2
      clear g2
      go_wp2
      go_ret
      exact ⟨ret_bool (HB.out (.inr (.inr (by simp at g3; omega)))).symm, rfl⟩
    have g2' : ((s[k].toNat : Int) == 127) = false := by simpa using g2
    have g3' : ((s[k].toNat : Int) == 47) = false := by simpa using g3
    have HO : Hid (okc s[k] = true) := Hd (by simp at g2' g3'; simp [okc]; omega)
    have HE : Hid (s[k].toNat ≠ 47) := Hd (by simp at g3'; omega)
    clear g2 g3
    go_wp2
    go_round
    case rel =>
     refine ⟨k + 1, by omega, by go_num, by rw [plain_take s k hlt, HP.out, HO.out]; rfl, fun j h hj => ?_⟩
     by_cases e : j = k
     · subst e; exact HE.out
     · exact HQ.out j h (by omega)
    case measure => simp [intOf]; omega
  · have HN : Hid (nameB s = true) := Hd (by
     rw [nameB_iff]
     refine ⟨fun e => ?_, by omega, H3.out, H4.out, by rw [← plain_all s k (by omega)]; exact HP.out, fun hm => ?_⟩
     · have h9 := congrArg List.length e; rw [sz] at h9; have h8 : ([] : List UInt8).length = 0 := rfl; omega
     · obtain ⟨j, hj, he⟩ := List.getElem_of_mem hm
       have hj2 : j < s.size := by rw [← sz]; exact hj
       rw [toList_get, data_get s j hj2] at he
       exact HQ.out j hj2 (by omega) (by rw [he]; rfl))
    go_wp2
    go_ret
    exact ⟨ret_bool HN.out.symm, rfl⟩
theorem rname_ok (s : ByteArray) (w : World) : Calls Tryz.prog 123 #[.string s] w fun e w' => e = .returned (.bool (okN (bs s))) ∧ w = w' := by
 rw [← nameB_ok]; exact rname_any s w
end Go.Proofs.YtafonmnfeibaiaaGreat
