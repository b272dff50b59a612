import Derived.Test.YtafonmnfeibaiaaInGone
namespace Go.Proofs.Ytafonmnfeibaiaa
open Go.RowKit

/-! ### Drop, Hold, Set, Data, Stat, Look, in plain words -/
def HB (T : IT.Tr) (B : Nat) : Prop := ∀ k m, T k = some m → m.holds ≤ B
/-- gone, when nothing was pending before. -/
theorem gone_calm {w w1 : World} {t : Nat} {S S1 : Tab} {T1 : IT.Tr} {k b : Nat} {n : Nd} (hmv : Mv w t S w1 S1) (hsd : IT.Sound0 okN T1) (hties : IT.Ties (kpOf S1) T1 IT.calm) (hcan : ∀ j, IT.can T1 j → j = k) (hk : S1 k = some (b, n)) :
    Calls Try.prog 77 #[.pointer (some ⟨t, 0, none⟩), .pointer (some ⟨b, 0, none⟩)] w1 fun e w' => e = .returned (.tuple #[]) ∧ Stp w t S (fun T' => IT.NF T1 T') w' := by
  refine (gone_ok (IT.cnt T1) w1 t S1 T1 IT.calm k b n hmv.rep hsd hties (fun x => ?_) (fun j hj => .inr (hcan j hj)) hk (Nat.le_refl _)).mono ?_
  · show IT.lnk T1 x + 0 ≤ 8
    rw [Nat.add_zero]; exact hsd.many x
  · rintro e w' ⟨rfl, S', T', g1, g2, g3⟩
    exact ⟨rfl, S', T', hmv.trans g1, g2, IT.gone_nf g3⟩
/-- loses, when one loss alone is pending. -/
theorem loses_one {w w1 : World} {t : Nat} {S S1 : Tab} {T1 : IT.Tr} {x b : Nat} {n : Nd} (hmv : Mv w t S w1 S1) (hsd : IT.Sound0 okN T1) (hties : IT.Ties (kpOf S1) T1 (IT.single x)) (hbd : ∀ y, IT.lnk T1 y + IT.single x y ≤ 8) (hcan : ∀ j, IT.can T1 j → j = x) (hk : S1 x = some (b, n)) :
    Calls Try.prog 53 #[.pointer (some ⟨t, 0, none⟩), .pointer (some ⟨b, 0, none⟩)] w1 fun e w' => e = .returned (.tuple #[]) ∧ Stp w t S (fun T' => IT.NF T1 T') w' := by
  refine (loses_ok (IT.cnt T1) w1 t S1 T1 (IT.single x) x b n hmv.rep hsd hties hbd (fun j hj => ?_) (by rw [IT.single_same]; omega) hk (Nat.le_refl _)).mono ?_
  · rw [hcan j hj, IT.single_same]; omega
  · rintro e w' ⟨rfl, S', T', g1, g2, g3⟩
    rw [IT.less_one] at g2 g3
    exact ⟨rfl, S', T', hmv.trans g1, g2, IT.gone_nf g3⟩

theorem kept_holds {n : Nd} {m : IT.Nd} {l : Nat} (h : IT.Kept (kp n) m l) (a : Int) (b : Nat) (hab : a = b) : IT.Kept (kp { n with holds := a }) { m with holds := b } l :=
  ⟨h.kind, h.mode, h.owner, h.group, h.tty, hab, h.data, h.names, h.links, h.parent⟩

set_option maxHeartbeats 400000 in
theorem drop_any {w : World} {t : Nat} {S : Tab} {T : IT.Tr} (h : Tre w t S T) (hb : HB T 1000000) (ki : Int) :
    Calls Try.prog 39 #[.pointer (some ⟨t, 0, none⟩), .int .i64 ki] w fun e w' => ∃ r, e = .returned (.bool r) ∧ Stp w t S (fun T' => IT.isDrop T ki.toNat r T') w' := by
  cases hk : S ki.toNat with
  | none =>
    have hT := (h.none_iff _).1 hk
    have HP : Hid (Stp w t S (fun T' => IT.isDrop T ki.toNat false T') w) := Lib.hid (Stp.keep h (by unfold IT.isDrop; rw [hT]; exact ⟨rfl, rfl⟩))
    have H := Lib.hid h.rep
    have HK := Lib.hid hk
    clear h hk hT hb
    go_enter Try.func39, Try.ntmps39
    go_wp2_with fail
    refine (H.out.at_none _ HK.out).mono ?_
    rintro e w' ⟨rfl, rfl⟩
    go_wp2
    go_ret
    exact ⟨_, rfl, HP.out⟩
  | some q =>
    obtain ⟨b, n⟩ := q
    obtain ⟨m, hT, hkp⟩ := h.get hk
    have hh : n.holds = (m.holds : Int) := hkp.holds
    have hB := hb _ m hT
    have c8 := h.rep.c8 hk
    have f8 := h.rep.frozenN hk 8
    have H := Lib.hid h.rep
    have HK := Lib.hid hk
    by_cases hz : m.holds = 0
    · have HP : Hid (Stp w t S (fun T' => IT.isDrop T ki.toNat false T') w) := Lib.hid (Stp.keep h (by unfold IT.isDrop; rw [hT]; show (if m.holds = 0 then _ else _); rw [if_pos hz]; exact ⟨rfl, rfl⟩))
      have hb3 : (n.holds == 0) = true := by simp; omega
      clear h hk hT hb hB hkp hz hh
      go_enter Try.func39, Try.ntmps39
      go_wp2_with fail
      refine (H.out.at_some _ HK.out).mono ?_
      rintro e w' ⟨rfl, rfl⟩
      go_wp2
      go_ret
      exact ⟨_, rfl, HP.out⟩
    · have hb1 : 1 ≤ n.holds := by omega
      have hb2 : n.holds ≤ 1000000 := by omega
      have hb3 : (n.holds == 0) = false := by simp; omega
      have hk2 := (h.rep.rng _ _ hk).2
      have hkn : IT.Kept (kp { n with holds := n.holds - 1 }) { m with holds := m.holds - 1 } (IT.lnk T ki.toNat) := kept_holds hkp _ _ (by omega)
      have hmv : Mv w t S (w.setCell ⟨b, 8, none⟩ (.int .i64 (n.holds - 1))) (upd S ki.toNat (some (b, { n with holds := n.holds - 1 }))) :=
        (Mv.refl h.rep).setNode hk 8 (.int .i64 (n.holds - 1)) { n with holds := n.holds - 1 } rfl rfl rfl rfl rfl (h.rep.small _ b n hk).1
      have hties : IT.Ties (kpOf (upd S ki.toNat (some (b, { n with holds := n.holds - 1 })))) (IT.upd T ki.toNat (some { m with holds := m.holds - 1 })) IT.calm := by
        rw [kpOf_upd]; exact h.ties.same hT hk2 rfl hkn
      have HG := Lib.hid (gone_calm hmv (h.snd.1.same (n' := { m with holds := m.holds - 1 }) hT rfl rfl rfl (h.snd.1.size _ m hT)) hties (fun j hj => by
        rcases IT.same_can (n' := { m with holds := m.holds - 1 }) hT hk2 rfl hj with e | e
        · exact e.1
        · exact absurd e (h.snd.2 j)) (upd_same ..))
      have HR : Hid (∀ T', IT.NF (IT.upd T ki.toNat (some { m with holds := m.holds - 1 })) T' → IT.isDrop T ki.toNat true T') := Lib.hid (fun T' hn => by
        unfold IT.isDrop; rw [hT]
        show (if m.holds = 0 then _ else _)
        rw [if_neg hz]; exact ⟨rfl, hn⟩)
      clear h hk hT hb hB hkp hz hh hk2 hkn hmv hties
      go_enter Try.func39, Try.ntmps39
      go_wp2_with fail
      refine (H.out.at_some _ HK.out).mono ?_
      rintro e w' ⟨rfl, rfl⟩
      go_wp2_with fail
      refine HG.out.mono ?_
      rintro e w' ⟨rfl, hp⟩
      have HP := Lib.hid hp
      clear hp
      go_wp2
      go_ret
      obtain ⟨S', T', g1, g2, g3⟩ := HP.out
      exact ⟨_, rfl, S', T', g1, g2, HR.out T' g3⟩

set_option maxHeartbeats 400000 in
theorem hold_any {w : World} {t : Nat} {S : Tab} {T : IT.Tr} (h : Tre w t S T) (hb : HB T 1000000) (ki : Int) :
    Calls Try.prog 43 #[.pointer (some ⟨t, 0, none⟩), .int .i64 ki] w fun e w' => ∃ r, e = .returned (.bool r) ∧ Stp w t S (fun T' => IT.isHold T ki.toNat r T') w' := by
  cases hk : S ki.toNat with
  | none =>
    have hT := (h.none_iff _).1 hk
    have HP : Hid (Stp w t S (fun T' => IT.isHold T ki.toNat false T') w) := Lib.hid (Stp.keep h (by unfold IT.isHold; rw [hT]; exact ⟨rfl, rfl⟩))
    have H := Lib.hid h.rep
    have HK := Lib.hid hk
    clear h hk hT hb
    go_enter Try.func43, Try.ntmps43
    go_wp2_with fail
    refine (H.out.at_none _ HK.out).mono ?_
    rintro e w' ⟨rfl, rfl⟩
    go_wp2
    go_ret
    exact ⟨_, rfl, HP.out⟩
  | some q =>
    obtain ⟨b, n⟩ := q
    obtain ⟨m, hT, hkp⟩ := h.get hk
    have hh : n.holds = (m.holds : Int) := hkp.holds
    have hB := hb _ m hT
    have c8 := h.rep.c8 hk
    have f8 := h.rep.frozenN hk 8
    have H := Lib.hid h.rep
    have HK := Lib.hid hk
    have hb1 : 0 ≤ n.holds := by omega
    have hb2 : n.holds ≤ 1000000 := by omega
    have hk2 := (h.rep.rng _ _ hk).2
    have hkn : IT.Kept (kp { n with holds := n.holds + 1 }) { m with holds := m.holds + 1 } (IT.lnk T ki.toNat) := kept_holds hkp _ _ (by omega)
    have hmv : Mv w t S (w.setCell ⟨b, 8, none⟩ (.int .i64 (n.holds + 1))) (upd S ki.toNat (some (b, { n with holds := n.holds + 1 }))) :=
      (Mv.refl h.rep).setNode hk 8 (.int .i64 (n.holds + 1)) { n with holds := n.holds + 1 } rfl rfl rfl rfl rfl (h.rep.small _ b n hk).1
    have HP : Hid (Stp w t S (fun T' => IT.isHold T ki.toNat true T') (w.setCell ⟨b, 8, none⟩ (.int .i64 (n.holds + 1)))) := Lib.hid ⟨_, IT.upd T ki.toNat (some { m with holds := m.holds + 1 }), hmv, by
      rw [kpOf_upd]; exact h.ties.same hT hk2 rfl hkn, by unfold IT.isHold; rw [hT]; exact ⟨rfl, rfl⟩⟩
    clear h hk hT hb hB hkp hh hk2 hkn hmv
    go_enter Try.func43, Try.ntmps43
    go_wp2_with fail
    refine (H.out.at_some _ HK.out).mono ?_
    rintro e w' ⟨rfl, rfl⟩
    go_wp2
    go_ret
    exact ⟨_, rfl, HP.out⟩

/-- May a mode and ids be? -/
def rt (m o g : Int) : Prop := rightB m o g = true
theorem kept_set {n : Nd} {m : IT.Nd} {l : Nat} (h : IT.Kept (kp n) m l) (a b c : Int) : IT.Kept (kp { n with mode := a, owner := b, group := c }) { m with mode := a, owner := b, group := c } l :=
  ⟨h.kind, rfl, rfl, rfl, h.tty, h.holds, h.data, h.names, h.links, h.parent⟩
set_option maxHeartbeats 400000 in
theorem set_any {w : World} {t : Nat} {S : Tab} {T : IT.Tr} (h : Tre w t S T) (ki mo o g : Int) :
    Calls Try.prog 61 #[.pointer (some ⟨t, 0, none⟩), .int .i64 ki, .int .i64 mo, .int .i64 o, .int .i64 g] w fun e w' => ∃ r, e = .returned (.int .i64 r) ∧ Stp w t S (fun T' => IT.isSet rt T ki.toNat mo o g r T') w' := by
  cases hk : S ki.toNat with
  | none =>
    have hT := (h.none_iff _).1 hk
    have HP : Hid (Stp w t S (fun T' => IT.isSet rt T ki.toNat mo o g 3 T') w) := Lib.hid (Stp.keep h (by unfold IT.isSet; rw [hT]; exact ⟨rfl, rfl⟩))
    have H := Lib.hid h.rep
    have HK := Lib.hid hk
    clear h hk hT
    go_enter Try.func61, Try.ntmps61
    go_wp2_with fail
    refine (H.out.at_none _ HK.out).mono ?_
    rintro e w' ⟨rfl, rfl⟩
    go_wp2
    go_ret
    exact ⟨_, rfl, HP.out⟩
  | some q =>
    obtain ⟨b, n⟩ := q
    obtain ⟨m, hT, hkp⟩ := h.get hk
    have H := Lib.hid h.rep
    have HK := Lib.hid hk
    by_cases hr : rightB mo o g = true
    · have c2 := h.rep.c2 hk
      have c3 := h.rep.c3 hk
      have c4 := h.rep.c4 hk
      have f2 := h.rep.frozenN hk 2
      have f3 := h.rep.frozenN hk 3
      have f4 := h.rep.frozenN hk 4
      have hk2 := (h.rep.rng _ _ hk).2
      have hsm := (h.rep.small _ b n hk).1
      have hmv : Mv w t S (((w.setCell ⟨b, 2, none⟩ (.int .i64 mo)).setCell ⟨b, 3, none⟩ (.int .i64 o)).setCell ⟨b, 4, none⟩ (.int .i64 g)) (upd S ki.toNat (some (b, { n with mode := mo, owner := o, group := g }))) := by
        have h1 := (Mv.refl h.rep).setNode hk 2 (.int .i64 mo) { n with mode := mo } rfl rfl rfl rfl rfl hsm
        have h2 := h1.setNode (upd_same ..) 3 (.int .i64 o) { n with mode := mo, owner := o } rfl rfl rfl rfl rfl hsm
        have h3 := h2.setNode (upd_same ..) 4 (.int .i64 g) { n with mode := mo, owner := o, group := g } rfl rfl rfl rfl rfl hsm
        rw [upd_upd, upd_upd] at h3
        exact h3
      have HP : Hid (Stp w t S (fun T' => IT.isSet rt T ki.toNat mo o g 0 T') (((w.setCell ⟨b, 2, none⟩ (.int .i64 mo)).setCell ⟨b, 3, none⟩ (.int .i64 o)).setCell ⟨b, 4, none⟩ (.int .i64 g))) := Lib.hid ⟨_, IT.upd T ki.toNat (some { m with mode := mo, owner := o, group := g }), hmv, by
        rw [kpOf_upd]; exact h.ties.same hT hk2 rfl (kept_set hkp _ _ _), by
        unfold IT.isSet; rw [hT]
        dsimp only
        rw [if_neg (fun hh => hh hr)]; exact ⟨rfl, rfl⟩⟩
      clear h hk hT hkp hk2 hmv hsm
      go_enter Try.func61, Try.ntmps61
      go_wp2_with fail
      refine (H.out.at_some _ HK.out).mono ?_
      rintro e w' ⟨rfl, rfl⟩
      go_wp2_with fail
      refine (right_any _ _ _ _).mono ?_
      rintro e w' ⟨rfl, rfl⟩
      go_wp2
      go_ret
      exact ⟨_, rfl, HP.out⟩
    · have hr : rightB mo o g = false := by simpa using hr
      have HP : Hid (Stp w t S (fun T' => IT.isSet rt T ki.toNat mo o g 1 T') w) := Lib.hid (Stp.keep h (by
        unfold IT.isSet; rw [hT]
        dsimp only
        rw [if_pos (fun hh : rt mo o g => by unfold rt at hh; rw [hr] at hh; cases hh)]; exact ⟨rfl, rfl⟩))
      clear h hk hT hkp
      go_enter Try.func61, Try.ntmps61
      go_wp2_with fail
      refine (H.out.at_some _ HK.out).mono ?_
      rintro e w' ⟨rfl, rfl⟩
      go_wp2_with fail
      refine (right_any _ _ _ _).mono ?_
      rintro e w' ⟨rfl, rfl⟩
      go_wp2
      go_ret
      exact ⟨_, rfl, HP.out⟩

/-! ### Reading -/
def infoT (T : IT.Tr) (k : Nat) (m : IT.Nd) : Value := .agg #[.int .i64 k, .int .i64 m.kind, .int .i64 m.mode, .int .i64 m.owner, .int .i64 m.group, .int .i64 (IT.lnk T k : Nat), .int .i64 (m.data.length + m.names.length : Nat), .int .i64 m.tty]
def statV (T : IT.Tr) (k : Nat) : Value := match T k with
  | none => noInfo
  | some m => infoT T k m
theorem info_eq {w : World} {t k b : Nat} {S : Tab} {T : IT.Tr} {n : Nd} {m : IT.Nd} (h : Rep w t S) (hk : S k = some (b, n)) (hkp : IT.Kept (kp n) m (IT.lnk T k)) : n.info = infoT T k m := by
  have e1 : n.kind = m.kind := hkp.kind
  have e2 : n.mode = m.mode := hkp.mode
  have e3 : n.owner = m.owner := hkp.owner
  have e4 : n.group = m.group := hkp.group
  have e5 : n.links = (IT.lnk T k : Int) := hkp.links
  have e6 : n.tty = m.tty := hkp.tty
  have e7 : bs n.data = m.data := hkp.data
  have e8 : (ents n.names).Perm m.names := hkp.names
  have e9 : n.names.length = m.names.length := by rw [← e8.length_eq]; simp [ents]
  have e10 : n.data.size = m.data.length := by rw [← e7, bs_len]
  unfold Nd.info infoT
  rw [h.ino k b n hk, e1, e2, e3, e4, e5, e6, e9, e10]
  rw [Int.natCast_add]
theorem stat_none {w : World} {t : Nat} {S : Tab} (h : Rep w t S) (k : Int) (hk : S k.toNat = none) :
    Calls Try.prog 14 #[.pointer (some ⟨t, 0, none⟩), .int .i64 k] w fun e w' => e = .returned (.tuple #[noInfo, .bool false]) ∧ Below w.heap.size w w' := by
  have H := Lib.hid h
  have HK := Lib.hid hk
  clear h hk
  go_enter Try.func14, Try.ntmps14
  go_wp2_with fail
  refine (((Mv.refl H.out).alloc _).rep.at_none _ HK.out).mono ?_
  rintro e w' ⟨rfl, rfl⟩
  go_wp2
  exact bodyPost_ret (v := .tuple #[noInfo, .bool false]) (by simp [results, Try.results14, go_sem, noInfo]) rfl ⟨rfl, (Below.refl _ _).alloc (Nat.le_refl _) _⟩
theorem stat_any {w : World} {t : Nat} {S : Tab} {T : IT.Tr} (h : Tre w t S T) (ki : Int) :
    Calls Try.prog 14 #[.pointer (some ⟨t, 0, none⟩), .int .i64 ki] w fun e w' => e = .returned (.tuple #[statV T ki.toNat, .bool (T ki.toNat).isSome]) ∧ Below w.heap.size w w' := by
  unfold statV
  cases hk : S ki.toNat with
  | none =>
    rw [(h.none_iff _).1 hk]
    exact stat_none h.rep ki hk
  | some q =>
    obtain ⟨b, n⟩ := q
    obtain ⟨m, hT, hkp⟩ := h.get hk
    rw [hT]
    refine (stat_some h.rep ki hk).mono ?_
    rintro e w' ⟨rfl, hb⟩
    exact ⟨by rw [info_eq h.rep hk hkp]; rfl, hb⟩
def dataT (T : IT.Tr) (k : Nat) : IT.Bytes := match T k with
  | none => []
  | some m => m.data
set_option maxHeartbeats 400000 in
theorem data_any {w : World} {t : Nat} {S : Tab} {T : IT.Tr} (h : Tre w t S T) (ki : Int) :
    Calls Try.prog 19 #[.pointer (some ⟨t, 0, none⟩), .int .i64 ki] w fun e w' => e = .returned (.string (tx (dataT T ki.toNat))) ∧ w = w' := by
  unfold dataT
  cases hk : S ki.toNat with
  | none =>
    rw [(h.none_iff _).1 hk]
    have H := Lib.hid h.rep
    have HK := Lib.hid hk
    clear h hk
    go_enter Try.func19, Try.ntmps19
    go_wp2_with fail
    refine (H.out.at_none _ HK.out).mono ?_
    rintro e w' ⟨rfl, rfl⟩
    go_wp2
    go_ret
    exact ⟨rfl, rfl⟩
  | some q =>
    obtain ⟨b, n⟩ := q
    obtain ⟨m, hT, hkp⟩ := h.get hk
    rw [hT]
    have HE : Hid (n.data = tx m.data) := Lib.hid (by rw [← hkp.data]; exact (tx_bs _).symm)
    have c9 := h.rep.c9 hk
    have H := Lib.hid h.rep
    have HK := Lib.hid hk
    clear h hk hT hkp
    go_enter Try.func19, Try.ntmps19
    go_wp2_with fail
    refine (H.out.at_some _ HK.out).mono ?_
    rintro e w' ⟨rfl, rfl⟩
    go_wp2
    go_ret
    exact ⟨by rw [HE.out]; rfl, rfl⟩
/-- What a name of a directory leads to. -/
def lookT (T : IT.Tr) (k : Nat) (nm : IT.Bytes) : Option Nat := match T k with
  | none => none
  | some m => if m.kind ≠ 1 then none else if nm = [46] then some k else if nm = [46, 46] then some m.parent else IT.findN nm m.names
def lookV (o : Option Nat) : Value := .tuple #[.int .i64 (o.getD 0 : Nat), .bool o.isSome]
theorem Rep.dir_mp {w : World} {t b k : Nat} {S : Tab} {n : Nd} (h : Rep w t S) (hk : S k = some (b, n)) (hkd : n.kind = 1) : ∃ m, n.mp = some m := by
  have := h.dir k b n hk
  rw [hkd] at this
  exact Option.isSome_iff_exists.1 (by simpa using this)
theorem bs_ne {s : ByteArray} {l : List UInt8} (h : ¬ bs s = l) : ¬ s = tx l := fun e => h (by rw [e, bs_tx])
set_option maxHeartbeats 400000 in
theorem look_any {w : World} {t : Nat} {S : Tab} {T : IT.Tr} (h : Tre w t S T) (ki : Int) (s : ByteArray) :
    Calls Try.prog 26 #[.pointer (some ⟨t, 0, none⟩), .int .i64 ki, .string s] w fun e w' => e = .returned (lookV (lookT T ki.toNat (bs s))) ∧ w = w' := by
  cases hk : S ki.toNat with
  | none =>
    have HE : Hid (lookT T ki.toNat (bs s) = none) := Lib.hid (by unfold lookT; rw [(h.none_iff _).1 hk])
    have H := Lib.hid h.rep
    have HK := Lib.hid hk
    clear h hk
    go_enter Try.func26, Try.ntmps26
    go_wp2_with fail
    refine (H.out.at_none _ HK.out).mono ?_
    rintro e w' ⟨rfl, rfl⟩
    go_wp2
    go_ret2
    exact ⟨by rw [HE.out]; rfl, rfl⟩
  | some q =>
    obtain ⟨b, n⟩ := q
    obtain ⟨m, hT, hkp⟩ := h.get hk
    have hkd : n.kind = m.kind := hkp.kind
    have hpar : n.parent = m.parent := hkp.parent
    have hrg := h.rep.rng _ _ hk
    have hlk := h.look hk hT s
    have c1 := h.rep.c1 hk
    have c11 := h.rep.c11 hk
    have c10 := h.rep.c10 hk
    have H := Lib.hid h.rep
    have HK := Lib.hid hk
    by_cases h1 : m.kind = 1
    · obtain ⟨mb, hmb⟩ := h.rep.dir_mp hk (hkd.trans h1)
      have hmap := h.rep.map _ b n mb hk hmb
      have hkb : (n.kind == 1) = true := by rw [hkd, h1]; rfl
      rw [hkd, h1] at c1
      rw [hmb] at c10
      by_cases h2 : bs s = [46]
      · have HE : Hid (lookT T ki.toNat (bs s) = some ki.toNat) := Lib.hid (by unfold lookT; rw [hT]; simp [h1, h2])
        obtain rfl : s = ⟨#[46]⟩ := by rw [← tx_bs s, h2]; rfl
        have HI : Hid ((ki.toNat : Int) = ki) := Lib.hid (by omega)
        clear h hk hT hkp hkd hpar hrg hlk hmb hmap hkb h1 h2
        go_enter Try.func26, Try.ntmps26
        go_wp2_with fail
        refine (H.out.at_some _ HK.out).mono ?_
        rintro e w' ⟨rfl, rfl⟩
        go_wp2
        go_ret2
        exact ⟨by rw [HE.out]; show _ = Ending.returned (.tuple #[.int .i64 ((ki.toNat : Nat) : Int), .bool true]); rw [HI.out]; rfl, rfl⟩
      · by_cases h3 : bs s = [46, 46]
        · have HE : Hid (lookT T ki.toNat (bs s) = some n.parent) := Lib.hid (by unfold lookT; rw [hT]; simp [h1, h3, hpar])
          obtain rfl : s = ⟨#[46, 46]⟩ := by rw [← tx_bs s, h3]; rfl
          clear h hk hT hkp hkd hpar hrg hlk hmb hmap hkb h1 h2 h3
          go_enter Try.func26, Try.ntmps26
          go_wp2_with fail
          refine (H.out.at_some _ HK.out).mono ?_
          rintro e w' ⟨rfl, rfl⟩
          go_wp2
          go_ret2
          exact ⟨by rw [HE.out]; rfl, rfl⟩
        · have e2 : (s.toList == [46]) = false := by rw [ByteArray.toList_eq]; exact beq_eq_false_iff_ne.2 h2
          have e3 : (s.toList == [46, 46]) = false := by rw [ByteArray.toList_eq]; exact beq_eq_false_iff_ne.2 h3
          have e4 : (s == (⟨#[46]⟩ : ByteArray)) = false := by rw [ba_beq]; exact decide_eq_false (bs_ne h2)
          have e5 : (s == (⟨#[46, 46]⟩ : ByteArray)) = false := by rw [ba_beq]; exact decide_eq_false (bs_ne h3)
          have HE : Hid (lookT T ki.toNat (bs s) = look n.names s) := Lib.hid (by unfold lookT; rw [hT, hlk]; simp [h1, h2, h3])
          cases hl : look n.names s with
          | none =>
            rw [hl] at HE
            have hrun := run_lookup_none Try.underlying84 Try.underlying9 hmap s hl (by kernel_rfl)
            clear h hk hT hkp hkd hpar hrg hlk hmb hmap hkb h1 h2 h3 hl
            go_enter Try.func26, Try.ntmps26
            go_wp2_with fail
            refine (H.out.at_some _ HK.out).mono ?_
            rintro e w' ⟨rfl, rfl⟩
            go_wp2
            go_ret2
            exact ⟨by rw [HE.out]; rfl, rfl⟩
          | some x =>
            rw [hl] at HE
            have hrun := run_lookup_some Try.underlying84 Try.underlying9 hmap s x hl
            clear h hk hT hkp hkd hpar hrg hlk hmb hmap hkb h1 h2 h3 hl
            go_enter Try.func26, Try.ntmps26
            go_wp2_with fail
            refine (H.out.at_some _ HK.out).mono ?_
            rintro e w' ⟨rfl, rfl⟩
            go_wp2
            go_ret2
            exact ⟨by rw [HE.out]; rfl, rfl⟩
    · have HE : Hid (lookT T ki.toNat (bs s) = none) := Lib.hid (by unfold lookT; rw [hT]; simp [h1])
      have hkb : (n.kind == 1) = false := by rw [hkd]; simpa using h1
      clear h hk hT hkp hkd hpar hrg hlk h1
      go_enter Try.func26, Try.ntmps26
      go_wp2_with fail
      refine (H.out.at_some _ HK.out).mono ?_
      rintro e w' ⟨rfl, rfl⟩
      go_wp2
      go_ret2
      exact ⟨by rw [HE.out]; rfl, rfl⟩
end Go.Proofs.Ytafonmnfeibaiaa
