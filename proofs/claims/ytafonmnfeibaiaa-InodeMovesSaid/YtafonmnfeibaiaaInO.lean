import Derived.Test.YtafonmnfeibaiaaInN
namespace Go.Proofs.Ytafonmnfeibaiaa
open Go.RowKit

/-! ### Move, in plain words -/
theorem delL_len {l : List (ByteArray × Nat)} (h : (l.map (·.1)).Nodup) {s : ByteArray} {x : Nat} (hl : look l s = some x) : (delL l s).length + 1 = l.length := by
  obtain ⟨j, _, hj, hd, _⟩ := findNow_some_of s x ((entVals l).map fun p => ⟨p.1, p.2, 0⟩) l 0 (by simp [entVals]) hl
  have hj' : j < l.length := by simpa [entVals] using hj
  rw [← hd, List.length_eraseIdx, if_pos hj']
  omega
theorem delL_none {l : List (ByteArray × Nat)} {s : ByteArray} (hl : look l s = none) : delL l s = l := by
  simp only [look, Option.map_eq_none_iff, List.find?_eq_none] at hl
  exact List.eraseP_of_forall_not (fun p hp => by simpa using hl p hp)
theorem delL_le (l : List (ByteArray × Nat)) (s : ByteArray) : (delL l s).length ≤ l.length := List.length_eraseP_le
theorem delL_nodup {l : List (ByteArray × Nat)} (h : (l.map (·.1)).Nodup) (s : ByteArray) : ((delL l s).map (·.1)).Nodup :=
  List.Nodup.sublist (List.eraseP_sublist.map _) h
theorem ents_perm {l l' : List (ByteArray × Nat)} (h : l.Perm l') : (ents l).Perm (ents l') := h.map _

section
variable {w : World} {t : Nat} {S : Tab} {T : IT.Tr} (h : Tre w t S T) {d b x bd bb bx : Nat} {nd nb nx : Nd} {n q m : IT.Nd} (hd : S d = some (bd, nd)) (hb : S b = some (bb, nb)) (hx : S x = some (bx, nx)) (hT : T d = some n) (hQ : T b = some q) (hX : T x = some m)
variable {s ar : ByteArray} (hne : x ≠ d) (hxb : x ≠ b) (hf : IT.findN (bs s) n.names = some x) {nb1 : Nd} (hnb1 : nb1 = if b = d then { nd with names := delL nd.names s } else nb)
include h hd hb hx hT hQ hX hne hxb hf hnb1
/-- How the memory ties to the tree without the entry, the loss pending. -/
theorem moved_tie1 : IT.Ties (IT.updK (kpOf S) d (some { kp nd with names := ents (delL nd.names s) })) (IT.delT T d x (bs s) n m) (fun y => IT.calm y + IT.single x y) ∧
    IT.updK (kpOf S) d (some { kp nd with names := ents (delL nd.names s) }) b = some (kp nb1) ∧ IT.updK (kpOf S) d (some { kp nd with names := ents (delL nd.names s) }) x = some (kp nx) := by
  have _ := hQ
  have _ := hxb
  have hrd := (h.snd.1.rng _ n hT).2
  have hrx := (h.snd.1.rng _ m hX).2
  refine ⟨h.ties.delP hT hX hne hrd hrx (h.snd.1.ord _ n hT) hf (kpOf_some hd) (ents (delL nd.names s)) (by rw [ents_del s (h.rep.nodup hd)]; exact List.Perm.refl _), ?_, ?_⟩
  · by_cases e : b = d
    · rw [if_pos e] at hnb1
      subst e
      rw [IT.updK_same, hnb1]; rfl
    · rw [if_neg e] at hnb1
      rw [IT.updK_other _ _ e, hnb1]; exact kpOf_some hb
  · rw [IT.updK_other _ _ hne]; exact kpOf_some hx
theorem kpOf_moved (l2 : List (ByteArray × Nat)) : kpOf (movedS S d b x bd nd bb nb1 bx nx s l2) = IT.updK (IT.updK (IT.updK (kpOf S) d (some { kp nd with names := ents (delL nd.names s) })) x (some { kp nx with parent := if (kp nx).kind = 1 then b else (kp nx).parent })) b (some { kp nb1 with names := ents l2 }) := by
  have _ := h
  have _ := hd
  have _ := hb
  have _ := hx
  have _ := hT
  have _ := hQ
  have _ := hX
  have _ := hne
  have _ := hf
  have _ := hnb1
  unfold movedS
  rw [kpOf_upd, kpOf_upd, kpOf_upd, IT.updK_comm _ (Ne.symm hxb)]
  rfl
/-- To where there was none of that name. -/
theorem moved_none {q1 : IT.Nd} (hq1 : IT.delT T d x (bs s) n m b = some q1) {l2 : List (ByteArray × Nat)} (hl2 : l2.Perm ((ar, x) :: delL nb1.names ar)) (hno : look nb1.names ar = none) :
    IT.Ties (kpOf (movedS S d b x bd nd bb nb1 bx nx s l2)) (IT.entT (IT.delT T d x (bs s) n m) b x (bs ar) q1 (IT.alone x m)) IT.calm := by
  obtain ⟨h1, h2, h3⟩ := moved_tie1 h hd hb hx hT hQ hX hne hxb hf hnb1
  rw [kpOf_moved h hd hb hx hT hQ hX hne hxb hf hnb1]
  refine h1.entP rfl hq1 (IT.del_at_x hne) hxb (h.snd.1.rng _ q hQ).2 (h.snd.1.rng _ m hX).2 h2 h3 (ents l2) ?_
  have e := ents_perm hl2
  rw [delL_none hno] at e
  exact e
/-- Over another one. -/
theorem moved_over {w1 : Nat} {mw q1 : IT.Nd} (hq1 : IT.delT T d x (bs s) n m b = some q1) (hwS : IT.delT T d x (bs s) n m w1 = some mw) (hwb : w1 ≠ b) (hwx : w1 ≠ x) (hw2 : w1 ≤ 200) (ho : IT.Ord q1.names) (hfq : IT.findN (bs ar) q1.names = some w1) {l2 : List (ByteArray × Nat)} (hl2 : l2.Perm ((ar, x) :: delL nb1.names ar)) (hnd : (nb1.names.map (·.1)).Nodup) :
    IT.Ties (kpOf (movedS S d b x bd nd bb nb1 bx nx s l2)) (IT.entT (IT.delT (IT.delT T d x (bs s) n m) b w1 (bs ar) q1 mw) b x (bs ar) { q1 with names := IT.delN (bs ar) q1.names } (IT.alone x m)) (IT.single w1) := by
  obtain ⟨h1, h2, h3⟩ := moved_tie1 h hd hb hx hT hQ hX hne hxb hf hnb1
  have hb2 := (h.snd.1.rng _ q hQ).2
  have hx2 := (h.snd.1.rng _ m hX).2
  have g1 := h1.delP (nm := bs ar) hq1 hwS hwb hb2 hw2 ho hfq h2 (ents (delL nb1.names ar)) (by rw [ents_del ar hnd]; exact List.Perm.refl _)
  rw [kpOf_moved h hd hb hx hT hQ hX hne hxb hf hnb1]
  have e : (fun y => (IT.calm y + IT.single x y) + IT.single w1 y) = fun y => IT.single w1 y + IT.single x y := by
    funext y
    show (0 + IT.single x y) + IT.single w1 y = _
    omega
  rw [e] at g1
  have g2 := g1.entP (d := b) (nm := bs ar) (IT.single_other (Ne.symm hwx)) IT.del_at_d (show IT.delT (IT.delT T d x (bs s) n m) b w1 (bs ar) q1 mw x = some (IT.alone x m) by rw [IT.del_at hxb (Ne.symm hwx)]; exact IT.del_at_x hne) hxb hb2 hx2 (IT.updK_same _ _ _) (by rw [IT.updK_other _ _ hxb]; exact h3) (ents l2) (ents_perm hl2)
  rw [IT.updK_comm _ (Ne.symm hxb), IT.updK_twice] at g2
  exact g2
end

open Classical in
theorem move_any {w : World} {t : Nat} {S : Tab} {T : IT.Tr} (h : Tre w t S T) (d b : Int) (s ar : ByteArray) :
    Calls Try.prog 24 #[.pointer (some ⟨t, 0, none⟩), .int .i64 d, .string s, .int .i64 b, .string ar] w fun e w' => ∃ r, e = .returned (.int .i64 r) ∧ Stp w t S (fun T' => IT.isMove okN T d.toNat (bs s) b.toNat (bs ar) r T') w' := by
  have hstay : ∀ {r : Int} {e : Ending} {w' : World}, IT.isMove okN T d.toNat (bs s) b.toNat (bs ar) r T → e = .returned (.int .i64 r) ∧ w = w' → ∃ r, e = .returned (.int .i64 r) ∧ Stp w t S (fun T' => IT.isMove okN T d.toNat (bs s) b.toNat (bs ar) r T') w' := by
    rintro r e w' hr ⟨rfl, rfl⟩
    exact ⟨r, rfl, Stp.keep h hr⟩
  have hstayB : ∀ {r : Int} {e : Ending} {w' : World}, IT.isMove okN T d.toNat (bs s) b.toNat (bs ar) r T → e = .returned (.int .i64 r) ∧ Below w.heap.size w w' → ∃ r, e = .returned (.int .i64 r) ∧ Stp w t S (fun T' => IT.isMove okN T d.toNat (bs s) b.toNat (bs ar) r T') w' := by
    rintro r e w' hr ⟨rfl, hb⟩
    exact ⟨r, rfl, Stp.keepB h hb hr⟩
  cases hd : S d.toNat with
  | none =>
    refine (mv_no h.rep d b s ar (.inl hd)).mono fun e w' => hstay ?_
    unfold IT.isMove; rw [(h.none_iff _).1 hd]; exact ⟨rfl, rfl⟩
  | some p1 =>
    obtain ⟨bd, nd⟩ := p1
    obtain ⟨n, hT, hkp⟩ := h.get hd
    cases hb : S b.toNat with
    | none =>
      refine (mv_no h.rep d b s ar (.inr hb)).mono fun e w' => hstay ?_
      unfold IT.isMove; rw [hT, (h.none_iff _).1 hb]; exact ⟨rfl, rfl⟩
    | some p2 =>
      obtain ⟨bb, nb⟩ := p2
      obtain ⟨q, hQ, hkq⟩ := h.get hb
      have hkd : nd.kind = n.kind := hkp.kind
      have hkb : nb.kind = q.kind := hkq.kind
      by_cases h1 : n.kind = 1
      case neg =>
        refine (mv_kind1 h.rep d b hd hb s ar (by rw [hkd]; exact h1)).mono fun e w' => hstay ?_
        unfold IT.isMove; rw [hT, hQ]; dsimp only; rw [if_pos (.inl h1)]; exact ⟨rfl, rfl⟩
      by_cases h2 : q.kind = 1
      case neg =>
        refine (mv_kind2 h.rep d b hd hb s ar (by rw [hkd]; exact h1) (by rw [hkb]; exact h2)).mono fun e w' => hstay ?_
        unfold IT.isMove; rw [hT, hQ]; dsimp only; rw [if_pos (.inr h2)]; exact ⟨rfl, rfl⟩
      have hkd1 := hkd.trans h1
      have hkb1 := hkb.trans h2
      have hk12 : ¬ (n.kind ≠ 1 ∨ q.kind ≠ 1) := by rintro (a | a); exact a h1; exact a h2
      have hlo := h.look hd hT s
      cases hl : look nd.names s with
      | none =>
        refine (mv_noent h.rep d b hd hb s ar hkd1 hkb1 hl).mono fun e w' => hstay ?_
        unfold IT.isMove; rw [hT, hQ]; dsimp only; rw [if_neg hk12, ← hlo, hl]; exact ⟨rfl, rfl⟩
      | some x =>
        have hfn : IT.findN (bs s) n.names = some x := by rw [← hlo]; exact hl
        obtain ⟨m, hX⟩ := h.snd.1.lead _ n (bs s, x) hT (IT.find_mem hfn)
        obtain ⟨bx, nx, hx, hkx⟩ := h.back hX
        have hkxx : nx.kind = m.kind := hkx.kind
        have pre : ∀ {r : Int} {T' : IT.Tr}, (if okN (bs ar) = false then r = 1 ∧ T' = T
            else if m.kind = 1 ∧ IT.Bel T x b.toNat then r = 8 ∧ T' = T
            else match IT.findN (bs ar) q.names with
              | none =>
                if d.toNat ≠ b.toNat ∧ q.names.length ≥ 40 then r = 9 ∧ T' = T
                else r = 0 ∧ ∃ q1 m1, IT.delT T d.toNat x (bs s) n m b.toNat = some q1 ∧ IT.delT T d.toNat x (bs s) n m x = some m1 ∧ T' = IT.entT (IT.delT T d.toNat x (bs s) n m) b.toNat x (bs ar) q1 m1
              | some w => if w = x then r = 0 ∧ T' = T
                else ∃ mw, T w = some mw ∧
                  if ¬ (mw.kind = 1 ↔ m.kind = 1) then r = 7 ∧ T' = T
                  else if mw.names ≠ [] then r = 8 ∧ T' = T
                  else r = 0 ∧ ∃ q1 q2 m2, IT.delT T d.toNat x (bs s) n m b.toNat = some q1 ∧ IT.delT (IT.delT T d.toNat x (bs s) n m) b.toNat w (bs ar) q1 mw b.toNat = some q2 ∧ IT.delT (IT.delT T d.toNat x (bs s) n m) b.toNat w (bs ar) q1 mw x = some m2 ∧ IT.NF (IT.entT (IT.delT (IT.delT T d.toNat x (bs s) n m) b.toNat w (bs ar) q1 mw) b.toNat x (bs ar) q2 m2) T') →
            IT.isMove okN T d.toNat (bs s) b.toNat (bs ar) r T' := by
          intro r T' hh
          unfold IT.isMove; rw [hT, hQ]; dsimp only; rw [if_neg hk12, hfn]
          exact ⟨m, hX, hh⟩
        by_cases h3 : nameB ar = true
        case neg =>
          have h3 : nameB ar = false := by simpa using h3
          refine (mv_noname h.rep d b hd hb s ar hkd1 hkb1 hl hx h3).mono fun e w' => hstay (pre ?_)
          rw [if_pos (by rw [← nameB_ok]; exact h3)]; exact ⟨rfl, rfl⟩
        have hok : okN (bs ar) = true := by rw [← nameB_ok]; exact h3
        have hokn : ¬ okN (bs ar) = false := by rw [hok]; intro e; cases e
        by_cases h4 : m.kind = 1 ∧ IT.Bel T x b.toNat
        · have hwi := (within_any h hb hx hQ h2).mono (R' := fun e w' => e = .returned (.bool true) ∧ Below w.heap.size w w') (by
            rintro e w' ⟨r, rfl, hr, hbl⟩
            exact ⟨by rw [hr.2 h4.2], hbl⟩)
          refine (mv_in h.rep d b hd hb s ar hkd1 hkb1 hl hx h3 (hkxx.trans h4.1) hwi).mono fun e w' => hstayB (pre ?_)
          rw [if_neg hokn, if_pos h4]; exact ⟨rfl, rfl⟩
        have hwi : m.kind = 1 → Calls Try.prog 51 #[.pointer (some ⟨t, 0, none⟩), .pointer (some ⟨bb, 0, none⟩), .pointer (some ⟨bx, 0, none⟩)] w fun e w' => e = .returned (.bool false) ∧ Below w.heap.size w w' := fun hmk =>
          (within_any h hb hx hQ h2).mono (by
            rintro e w' ⟨r, rfl, hr, hbl⟩
            cases r with
            | true => exact absurd ⟨hmk, hr.1 rfl⟩ h4
            | false => exact ⟨rfl, hbl⟩)
        have hlq := h.look hb hQ ar
        obtain ⟨hne, hxb, hx1⟩ := IT.move_ne h.snd hT hQ h1 h2 hfn hX hok h4
        cases hla : look nb.names ar with
        | none =>
          have hfa : IT.findN (bs ar) q.names = none := by rw [← hlq]; exact hla
          have hlen := names_nil hkq.names
          by_cases h5 : d.toNat ≠ b.toNat ∧ q.names.length ≥ 40
          · have fin := pre (r := 9) (T' := T) (by rw [if_neg hokn, if_neg h4, hfa]; dsimp only; rw [if_pos h5]; exact ⟨rfl, rfl⟩)
            by_cases hk : m.kind = 1
            · exact (mv_fulld h.rep d b hd hb s ar hkd1 hkb1 hl hx h3 (hkxx.trans hk) (hwi hk) hla h5.1 (by omega)).mono fun e w' => hstayB fin
            · exact (mv_fullf h.rep d b hd hb s ar hkd1 hkb1 hl hx h3 (by rw [hkxx]; exact hk) hla h5.1 (by omega)).mono fun e w' => hstayB fin
          · obtain ⟨q1, hq1, _, _⟩ := IT.move_q h.snd hT hQ h1 h2 hfn hX hok h4
            obtain ⟨nb1, hnb1⟩ : ∃ nb1 : Nd, nb1 = if b.toNat = d.toNat then { nd with names := delL nd.names s } else nb := ⟨_, rfl⟩
            have hnd1 : (nd.names.map (·.1)).Nodup := h.rep.nodup hd
            have hno : look nb1.names ar = none ∧ nb1.names.length < 40 := by
              by_cases e : b.toNat = d.toNat
              · rw [if_pos e] at hnb1
                rw [e, hd] at hb
                obtain ⟨_, rfl⟩ := Prod.mk.inj (Option.some.inj hb)
                rw [hnb1]
                show look (delL nd.names s) ar = none ∧ (delL nd.names s).length < 40
                have h40 := (h.rep.small _ _ _ hd).2
                refine ⟨?_, by have := delL_len hnd1 hl; omega⟩
                simp only [look, Option.map_eq_none_iff, List.find?_eq_none] at hla ⊢
                exact fun p hp => hla p (List.eraseP_sublist.subset hp)
              · rw [if_neg e] at hnb1
                rw [hnb1]
                exact ⟨hla, by have : ¬ q.names.length ≥ 40 := fun a => h5 ⟨fun e2 => e e2.symm, a⟩; omega⟩
            have h40 : (delL nb1.names ar).length < 40 := by rw [delL_none hno.1]; exact hno.2
            have fin : ∀ {e : Ending} {w' : World}, (e = .returned (.int .i64 0) ∧ ∃ l2 : List (ByteArray × Nat), l2.Perm ((ar, x) :: delL nb1.names ar) ∧ Mv w t S w' (movedS S d.toNat b.toNat x bd nd bb nb1 bx nx s l2)) → ∃ r, e = .returned (.int .i64 r) ∧ Stp w t S (fun T' => IT.isMove okN T d.toNat (bs s) b.toNat (bs ar) r T') w' := by
              rintro e w' ⟨rfl, l2, hl2, hmv⟩
              refine ⟨0, rfl, _, _, hmv, moved_none h hd hb hx hT hQ hX hne hxb hfn hnb1 hq1 hl2 hno.1, pre ?_⟩
              rw [if_neg hokn, if_neg h4, hfa]; dsimp only; rw [if_neg h5]
              exact ⟨rfl, q1, IT.alone x m, hq1, IT.del_at_x hne, rfl⟩
            by_cases hdb : d.toNat = b.toNat
            · by_cases hk : m.kind = 1
              · exact (mv_oksd h.rep d b hd hb s ar hkd1 hkb1 hl hx h3 (hkxx.trans hk) (hwi hk) hla hdb hne hxb hnb1 h40).mono fun e w' => fin
              · exact (mv_oksf h.rep d b hd hb s ar hkd1 hkb1 hl hx h3 (by rw [hkxx]; exact hk) hla hdb hne hxb hnb1 h40).mono fun e w' => fin
            · have hfu : nb.names.length < 40 := by
                have : ¬ q.names.length ≥ 40 := fun a => h5 ⟨hdb, a⟩
                omega
              by_cases hk : m.kind = 1
              · exact (mv_oknd h.rep d b hd hb s ar hkd1 hkb1 hl hx h3 (hkxx.trans hk) (hwi hk) hla hdb hfu hne hxb hnb1 h40).mono fun e w' => fin
              · exact (mv_oknf h.rep d b hd hb s ar hkd1 hkb1 hl hx h3 (by rw [hkxx]; exact hk) hla hdb hfu hne hxb hnb1 h40).mono fun e w' => fin
        | some y =>
          have hfa : IT.findN (bs ar) q.names = some y := by rw [← hlq]; exact hla
          by_cases hyx : y = x
          · subst hyx
            have fin := pre (r := 0) (T' := T) (by rw [if_neg hokn, if_neg h4, hfa]; dsimp only; rw [if_pos rfl]; exact ⟨rfl, rfl⟩)
            by_cases hk : m.kind = 1
            · exact (mv_samed h.rep d b hd hb s ar hkd1 hkb1 hl hx h3 (hkxx.trans hk) (hwi hk) hla).mono fun e w' => hstayB fin
            · exact (mv_samef h.rep d b hd hb s ar hkd1 hkb1 hl hx h3 (by rw [hkxx]; exact hk) hla).mono fun e w' => hstayB fin
          · obtain ⟨my, hY⟩ := h.snd.1.lead _ q (bs ar, y) hQ (IT.find_mem hfa)
            obtain ⟨by_, ny, hy, hky⟩ := h.back hY
            have hkyy : ny.kind = my.kind := hky.kind
            have hleny := names_nil hky.names
            have pre2 : ∀ {r : Int} {T' : IT.Tr}, (if ¬ (my.kind = 1 ↔ m.kind = 1) then r = 7 ∧ T' = T
                  else if my.names ≠ [] then r = 8 ∧ T' = T
                  else r = 0 ∧ ∃ q1 q2 m2, IT.delT T d.toNat x (bs s) n m b.toNat = some q1 ∧ IT.delT (IT.delT T d.toNat x (bs s) n m) b.toNat y (bs ar) q1 my b.toNat = some q2 ∧ IT.delT (IT.delT T d.toNat x (bs s) n m) b.toNat y (bs ar) q1 my x = some m2 ∧ IT.NF (IT.entT (IT.delT (IT.delT T d.toNat x (bs s) n m) b.toNat y (bs ar) q1 my) b.toNat x (bs ar) q2 m2) T') →
                IT.isMove okN T d.toNat (bs s) b.toNat (bs ar) r T' := by
              intro r T' hh
              refine pre ?_
              rw [if_neg hokn, if_neg h4, hfa]; dsimp only; rw [if_neg hyx]
              exact ⟨my, hY, hh⟩
            by_cases hkk : my.kind = 1 ↔ m.kind = 1
            case neg =>
              have fin := pre2 (r := 7) (T' := T) (by rw [if_pos hkk]; exact ⟨rfl, rfl⟩)
              by_cases hk : m.kind = 1
              · exact (mv_kindsd h.rep d b hd hb s ar hkd1 hkb1 hl hx h3 (hkxx.trans hk) (hwi hk) hla hy hyx (by rw [hkyy]; exact fun a => hkk ⟨fun _ => hk, fun _ => a⟩)).mono fun e w' => hstayB fin
              · exact (mv_kindsf h.rep d b hd hb s ar hkd1 hkb1 hl hx h3 (by rw [hkxx]; exact hk) hla hy hyx (by
                  rw [hkyy]
                  exact Decidable.byContradiction fun a => hkk ⟨fun c => absurd c a, fun c => absurd c hk⟩)).mono fun e w' => hstayB fin
            by_cases hemp : my.names = []
            case neg =>
              have fin := pre2 (r := 8) (T' := T) (by rw [if_neg (fun a => a hkk), if_pos hemp]; exact ⟨rfl, rfl⟩)
              have hpos : 0 < ny.names.length := by
                rw [hleny]
                cases hmn : my.names with
                | nil => exact absurd hmn hemp
                | cons => simp
              by_cases hk : m.kind = 1
              · exact (mv_busyd h.rep d b hd hb s ar hkd1 hkb1 hl hx h3 (hkxx.trans hk) (hwi hk) hla hy hyx hpos (hkyy.trans (hkk.2 hk))).mono fun e w' => hstayB fin
              · exact (mv_busyf h.rep d b hd hb s ar hkd1 hkb1 hl hx h3 (by rw [hkxx]; exact hk) hla hy hyx hpos (by rw [hkyy]; exact fun a => hk (hkk.1 a))).mono fun e w' => hstayB fin
            have hnye : ny.names = [] := List.eq_nil_of_length_eq_zero (by rw [hleny, hemp]; rfl)
            obtain ⟨q1, hq1, hq1k, hq1e, hfq, hyb, hyd, hY1, s1, s3, hcan, hlnk⟩ := IT.move_over h.snd hT hQ h1 h2 hfn hX hok h4 hfa hyx hY hemp
            obtain ⟨nb1, hnb1⟩ : ∃ nb1 : Nd, nb1 = if b.toNat = d.toNat then { nd with names := delL nd.names s } else nb := ⟨_, rfl⟩
            have hnd1 : (nb1.names.map (·.1)).Nodup := by
              by_cases e : b.toNat = d.toNat
              · rw [if_pos e] at hnb1; rw [hnb1]; exact delL_nodup (h.rep.nodup hd) s
              · rw [if_neg e] at hnb1; rw [hnb1]; exact h.rep.nodup hb
            have hpq : (ents nb1.names).Perm q1.names := by
              by_cases e : b.toNat = d.toNat
              · rw [if_pos e] at hnb1 hq1e
                rw [hnb1, hq1e]
                show (ents (delL nd.names s)).Perm (IT.delN (bs s) n.names)
                rw [ents_del s (h.rep.nodup hd)]
                exact IT.perm_del hkp.names _
              · rw [if_neg e] at hnb1 hq1e
                rw [hnb1, hq1e]; exact hkq.names
            have hlk1 : look nb1.names ar = some y := by rw [← look_find, IT.perm_find (s1.ord _ q1 hq1) hpq]; exact hfq
            have h40 : (delL nb1.names ar).length < 40 := by
              have e1 := delL_len hnd1 hlk1
              have e2 : nb1.names.length ≤ 40 := by
                by_cases e : b.toNat = d.toNat
                · rw [if_pos e] at hnb1; rw [hnb1]
                  have := (h.rep.small _ _ _ hd).2
                  have := delL_le nd.names s
                  show (delL nd.names s).length ≤ 40
                  omega
                · rw [if_neg e] at hnb1; rw [hnb1]; exact (h.rep.small _ _ _ hb).2
              omega
            have hlo1 : ∀ (w1 : World) (l2 : List (ByteArray × Nat)), l2.Perm ((ar, x) :: delL nb1.names ar) → Mv w t S w1 (movedS S d.toNat b.toNat x bd nd bb nb1 bx nx s l2) → Calls Try.prog 53 #[.pointer (some ⟨t, 0, none⟩), .pointer (some ⟨by_, 0, none⟩)] w1 fun e w' => e = .returned (.tuple #[]) ∧ Stp w t S (fun T' => IT.NF (IT.entT (IT.delT (IT.delT T d.toNat x (bs s) n m) b.toNat y (bs ar) q1 my) b.toNat x (bs ar) { q1 with names := IT.delN (bs ar) q1.names } (IT.alone x m)) T') w' := by
              intro w1 l2 hl2 hmv
              refine loses_one hmv s3 (moved_over h hd hb hx hT hQ hX hne hxb hfn hnb1 hq1 hY1 hyb hyx (h.snd.1.rng _ my hY).2 (s1.ord _ q1 hq1) hfq hl2 hnd1) (fun y' => by rw [hlnk]; exact h.snd.1.many y') hcan (n := ny) ?_
              unfold movedS
              rw [upd_other _ _ hyx, upd_other _ _ hyb, upd_other _ _ hyd]
              exact hy
            have fin : ∀ {e : Ending} {w' : World}, (e = .returned (.int .i64 0) ∧ Stp w t S (fun T' => IT.NF (IT.entT (IT.delT (IT.delT T d.toNat x (bs s) n m) b.toNat y (bs ar) q1 my) b.toNat x (bs ar) { q1 with names := IT.delN (bs ar) q1.names } (IT.alone x m)) T') w') → ∃ r, e = .returned (.int .i64 r) ∧ Stp w t S (fun T' => IT.isMove okN T d.toNat (bs s) b.toNat (bs ar) r T') w' := by
              rintro e w' ⟨rfl, S', T', g1, g2, g3⟩
              refine ⟨0, rfl, S', T', g1, g2, pre2 ?_⟩
              rw [if_neg (fun a => a hkk), if_neg (fun a => a hemp)]
              exact ⟨rfl, q1, _, IT.alone x m, hq1, IT.del_at_d, by rw [IT.del_at hxb (Ne.symm hyx)]; exact IT.del_at_x hne, g3⟩
            by_cases hk : m.kind = 1
            · exact (mv_overd h.rep d b hd hb s ar hkd1 hkb1 hl hx h3 (hkxx.trans hk) (hwi hk) hla hy hyx hne hxb hnb1 h40 hnye hlo1 (hkyy.trans (hkk.2 hk))).mono fun e w' => fin
            · exact (mv_overf h.rep d b hd hb s ar hkd1 hkb1 hl hx h3 (by rw [hkxx]; exact hk) hla hy hyx hne hxb hnb1 h40 hnye hlo1 (by rw [hkyy]; exact fun a => hk (hkk.1 a))).mono fun e w' => fin
end Go.Proofs.Ytafonmnfeibaiaa
