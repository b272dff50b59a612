/- Part 3 of the proof: contracts of functions that the statement reaches, and plain lemmas. -/
import Derived.Test.YtafonmnfeibaiaaAll1
import Derived.BigRegion
import Derived.RegionTactic
import Derived.StillTailTactics
import Derived.Laws.ResultCell
import Derived.LaidEqlPtr
import Derived.Lib.Builder
import Derived.Test.YtafonmnfeibaiaaAll0
import Derived.Deep.Draws
import Derived.BigQuiet
import Derived.ChangeAlike
import Derived.Deep.QuietTactic
import Derived.Test.YtafonmnfeibaiaaIter
import Derived.Sort.KeysCollected
import Derived.Lib.IndexLaws
import Derived.Lib.TrimByte
import Derived.Lib.LastIndexByte
import Derived.WalkKit
import Derived.Test.YtafonmnfeibaiaaShelf
import Derived.WalkLawsBesides
import Derived.WalkSpells
import Derived.Outline
import Derived.Below
import Derived.Lib.Hide
import Derived.OwnWalk
import Derived.Maps.AppendAt
import Derived.RangeFuncNested
import Derived.RangeFuncBound
import Derived.RangeFuncCalls
import Derived.RangeFuncLeaves
import Derived.Shelf.Abstract
import Derived.Shelf.RegionOpen
import Derived.OwnWalkIn
import Derived.TacticsInMore
import Derived.LoopNIn
import Derived.LoopIn
set_option linter.unusedSimpArgs false
set_option linter.unusedVariables false
namespace Go.Proofs.Ytafonmnfeibaiaa.RF
open Go.RowKit

/-! ### the document's tree: Set, Cut, Put -/
set_option maxHeartbeats 1000000 in
theorem rf_set_no {w : World} {t B : Nat} {G : Gt} {T : IT.Tr} (h : Trf w t B G T) (ki mo o g : Int) (hm : T ki.toNat = none) :
    Calls Try.prog 62 #[.pointer (some ⟨t, 0, none⟩), .int .i64 ki, .int .i64 mo, .int .i64 o, .int .i64 g] w fun e w' => e = .returned (.int .i64 3) ∧ w = w' := by
  have HI := Lib.hid (rf_is_no h ki hm)
  clear h hm
  go_enter Try.func62, Try.ntmps62
  go_wp2_with fail
  refine HI.out.mono ?_
  rintro e w' ⟨rfl, rfl⟩
  go_wp2
  go_ret
  exact ⟨rfl, rfl⟩
set_option maxHeartbeats 1000000 in
theorem rf_set_bad {w : World} {t B : Nat} {G : Gt} {T : IT.Tr} (h : Trf w t B G T) (ki mo o g : Int) (hmo : mo < 9223372036854775808) {m : IT.Nd} (hm : T ki.toNat = some m) (hr : rightB mo o g = false) :
    Calls Try.prog 62 #[.pointer (some ⟨t, 0, none⟩), .int .i64 ki, .int .i64 mo, .int .i64 o, .int .i64 g] w fun e w' => e = .returned (.int .i64 1) ∧ w = w' := by
  have HI := Lib.hid (rf_is_yes h ki hm)
  have HR := Lib.hid (Md.rright_any mo hmo w)
  have HO := Lib.hid (rf_id o w)
  have HG := Lib.hid (rf_id g w)
  rw [right_ids] at hr
  clear h hm hmo
  cases h1 : Md.rightB mo with
  | false =>
    rw [h1] at HR
    clear hr h1
    go_enter Try.func62, Try.ntmps62
    go_wp2_with fail
    refine HI.out.mono ?_
    rintro e w' ⟨rfl, rfl⟩
    go_wp2_with fail
    refine HR.out.mono ?_
    rintro e w' ⟨rfl, rfl⟩
    go_wp2
    go_ret
    exact ⟨rfl, rfl⟩
  | true =>
    rw [h1] at HR hr
    cases h2 : idB o with
    | false =>
      rw [h2] at HO
      clear hr h1 h2
      go_enter Try.func62, Try.ntmps62
      go_wp2_with fail
      refine HI.out.mono ?_
      rintro e w' ⟨rfl, rfl⟩
      go_wp2_with fail
      refine HR.out.mono ?_
      rintro e w' ⟨rfl, rfl⟩
      go_wp2_with fail
      refine HO.out.mono ?_
      rintro e w' ⟨rfl, rfl⟩
      go_wp2
      go_ret
      exact ⟨rfl, rfl⟩
    | true =>
      have h3 : idB g = false := by rw [h2] at hr; simpa using hr
      rw [h2] at HO
      rw [h3] at HG
      clear hr h1 h2 h3
      go_enter Try.func62, Try.ntmps62
      go_wp2_with fail
      refine HI.out.mono ?_
      rintro e w' ⟨rfl, rfl⟩
      go_wp2_with fail
      refine HR.out.mono ?_
      rintro e w' ⟨rfl, rfl⟩
      go_wp2_with fail
      refine HO.out.mono ?_
      rintro e w' ⟨rfl, rfl⟩
      go_wp2_with fail
      refine HG.out.mono ?_
      rintro e w' ⟨rfl, rfl⟩
      go_wp2
      go_ret
      exact ⟨rfl, rfl⟩
theorem right_parts {m o g : Int} (h : rightB m o g = true) : Md.rightB m = true ∧ idB o = true ∧ idB g = true := by
  rw [right_ids] at h
  simpa using h
theorem Rf.set3 {w : World} {t B : Nat} {G : Gt} (h : Rf w t B G) {k : Nat} (hk : k ≤ 200) (mo o g : Int) : Rf (((w.setCell ⟨B, k * 10 + 2, none⟩ (.int .i64 mo)).setCell ⟨B, k * 10 + 3, none⟩ (.int .i64 o)).setCell ⟨B, k * 10 + 4, none⟩ (.int .i64 g)) t B (updG G k { G k with mode := mo, owner := o, group := g }) := by
  have h1 := h.set hk (show 2 < 10 by omega) (.int .i64 mo) { G k with mode := mo } rfl (h.ents k hk)
  have h2 := h1.set hk (show 3 < 10 by omega) (.int .i64 o) { G k with mode := mo, owner := o } (by rw [updG_same]; rfl) (by have := h1.ents k hk; rw [updG_same] at this; exact this)
  have h3 := h2.set hk (show 4 < 10 by omega) (.int .i64 g) { G k with mode := mo, owner := o, group := g } (by rw [updG_same]; rfl) (by have := h2.ents k hk; rw [updG_same] at this; exact this)
  rw [upd_one, upd_one] at h3
  exact h3
set_option maxHeartbeats 1000000 in
theorem rf_set {w : World} {t B : Nat} {G : Gt} {T : IT.Tr} (h : Trf w t B G T) (ki mo o g : Int) (hmo : mo < 9223372036854775808) :
    Calls Try.prog 62 #[.pointer (some ⟨t, 0, none⟩), .int .i64 ki, .int .i64 mo, .int .i64 o, .int .i64 g] w fun e w' => ∃ r, e = .returned (.int .i64 r) ∧ Stf w t B (fun T' => IT.isSet rt T ki.toNat mo o g r T') w' := by
  cases hm : T ki.toNat with
  | none =>
    refine (rf_set_no h ki mo o g hm).mono ?_
    rintro e w' ⟨rfl, rfl⟩
    exact ⟨3, rfl, Stf.keep h (Below.refl _ _) (by unfold IT.isSet; rw [hm]; exact ⟨rfl, rfl⟩)⟩
  | some m =>
    cases hr : rightB mo o g with
    | false =>
      refine (rf_set_bad h ki mo o g hmo hm hr).mono ?_
      rintro e w' ⟨rfl, rfl⟩
      exact ⟨1, rfl, Stf.keep h (Below.refl _ _) (by unfold IT.isSet; rw [hm]; dsimp only; rw [if_pos (by unfold rt; rw [hr]; decide)]; exact ⟨rfl, rfl⟩)⟩
    | true =>
      obtain ⟨r1, r2, r3⟩ := right_parts hr
      have HI := Lib.hid (rf_is_yes h ki hm)
      have HR := Lib.hid (Md.rright_any mo hmo w)
      have HO := Lib.hid (rf_id o w)
      have HG := Lib.hid (rf_id g w)
      rw [r1] at HR
      rw [r2] at HO
      rw [r3] at HG
      obtain ⟨k, rfl, hk1, hk2, hk⟩ := h.nat hm
      have c0 := h.rep.cellT
      have hkp := h.ties.sok k m hk
      have b2 := h.rep.c2 k hk2
      have b3 := h.rep.c3 k hk2
      have b4 := h.rep.c4 k hk2
      have s2 := h.rep.frozen (k * 10 + 2)
      have s3 := h.rep.frozen (k * 10 + 3)
      have s4 := h.rep.frozen (k * 10 + 4)
      have hne : t ≠ B := h.rep.ne
      have hkp' : Kept { G k with mode := mo, owner := o, group := g } { m with mode := mo, owner := o, group := g } := ⟨hkp.is, hkp.kind, rfl, rfl, rfl, hkp.tty, hkp.holds, hkp.parent, hkp.data, hkp.names⟩
      have HP : Hid (Stf w t B (fun T' => IT.isSet rt T (k : Int).toNat mo o g 0 T') _) := Lib.hid ⟨_, _, (((Mo.refl _ _).set _).set _).set _, h.rep.set3 hk2 mo o g, h.ties.set k hkp', by
        unfold IT.isSet; rw [hm]; dsimp only; rw [if_neg (fun hh => hh hr)]; exact ⟨rfl, rfl⟩⟩
      clear h hm hk hkp hkp' hr r1 r2 r3 hmo
      go_enter Try.func62, Try.ntmps62
      go_wp2_with fail
      refine HI.out.mono ?_
      rintro e w' ⟨rfl, rfl⟩
      go_wp2_with fail
      refine HR.out.mono ?_
      rintro e w' ⟨rfl, rfl⟩
      go_wp2_with fail
      refine HO.out.mono ?_
      rintro e w' ⟨rfl, rfl⟩
      go_wp2_with fail
      refine HG.out.mono ?_
      rintro e w' ⟨rfl, rfl⟩
      go_wp2
      go_ret
      exact ⟨0, rfl, HP.out⟩
end Go.Proofs.Ytafonmnfeibaiaa.RF
namespace Go.Proofs.Ytafonmnfeibaiaa.RF
open Go.RowKit

/-! ### the document's tree: Cut, Put -/
theorem fileE_bad {o : Option IT.Nd} (h : fileE o ≠ 0) : fileE o = 1 ∨ fileE o = 3 ∨ fileE o = 7 := by
  unfold fileE at h ⊢
  cases o with
  | none => exact .inr (.inl rfl)
  | some m =>
    dsimp only at h ⊢
    split
    · exact .inr (.inr rfl)
    · split
      · exact .inl rfl
      · rename_i h1 h2; rw [if_neg h1, if_neg h2] at h; exact absurd rfl h
theorem fileE_ok {o : Option IT.Nd} (h : fileE o = 0) : ∃ m, o = some m ∧ m.kind ≠ 1 ∧ m.kind ≠ 2 := by
  unfold fileE at h
  cases o with
  | none => cases h
  | some m =>
    dsimp only at h
    split at h
    · cases h
    · split at h
      · cases h
      · rename_i h1 h2; exact ⟨m, rfl, h1, h2⟩
theorem cut_stay {T : IT.Tr} {k : Nat} (h : fileE (T k) ≠ 0) : IT.isCut T k (fileE (T k)) T := by
  unfold IT.isCut fileE at *
  cases hk : T k with
  | none => exact ⟨rfl, rfl⟩
  | some m =>
    rw [hk] at h
    dsimp only at h ⊢
    split
    · exact ⟨rfl, rfl⟩
    · split
      · exact ⟨rfl, rfl⟩
      · rename_i h1 h2; rw [if_neg h1, if_neg h2] at h; exact absurd rfl h
theorem put_stay {T : IT.Tr} {k : Nat} (a : Int) (s : IT.Bytes) (h : fileE (T k) ≠ 0) : IT.isPut T k a s (fileE (T k)) T := by
  unfold IT.isPut fileE at *
  cases hk : T k with
  | none => exact ⟨rfl, rfl⟩
  | some m =>
    rw [hk] at h
    dsimp only at h ⊢
    split
    · exact ⟨rfl, rfl⟩
    · split
      · exact ⟨rfl, rfl⟩
      · rename_i h1 h2; rw [if_neg h1, if_neg h2] at h; exact absurd rfl h
theorem Kept.setData {n : RN} {m : IT.Nd} (h : Kept n m) (a : ByteArray) (b : IT.Bytes) (hab : bs a = b) : Kept { n with data := a } { m with data := b } := ⟨h.is, h.kind, h.mode, h.owner, h.group, h.tty, h.holds, h.parent, hab, h.names⟩
set_option maxHeartbeats 1000000 in
theorem rf_cut {w : World} {t B : Nat} {G : Gt} {T : IT.Tr} (h : Trf w t B G T) (ki : Int) :
    Calls Try.prog 64 #[.pointer (some ⟨t, 0, none⟩), .int .i64 ki] w fun e w' => ∃ r, e = .returned (.int .i64 r) ∧ Stf w t B (fun T' => IT.isCut T ki.toNat r T') w' := by
  have HF := Lib.hid (rf_file h ki)
  by_cases hz : fileE (T ki.toNat) = 0
  · obtain ⟨m, hm, hm1, hm2⟩ := fileE_ok hz
    rw [hz] at HF
    obtain ⟨k, rfl, hk1, hk2, hk⟩ := h.nat hm
    have c0 := h.rep.cellT
    have hkp := h.ties.sok k m hk
    have b8 := h.rep.c8 k hk2
    have s8 := h.rep.frozen (k * 10 + 8)
    have HP : Hid (Stf w t B (fun T' => IT.isCut T (k : Int).toNat 0 T') (w.setCell ⟨B, k * 10 + 8, none⟩ (.string ⟨#[]⟩))) := Lib.hid ⟨_, _, (Mo.refl _ _).set _, h.rep.set hk2 (show 8 < 10 by omega) _ { G k with data := ⟨#[]⟩ } rfl (h.rep.ents k hk2), h.ties.set k (hkp.setData ⟨#[]⟩ [] rfl), by
      unfold IT.isCut; rw [hm]; dsimp only; rw [if_neg hm1, if_neg hm2]; exact ⟨rfl, rfl⟩⟩
    clear h hm hk hkp hm1 hm2 hz
    go_enter Try.func64, Try.ntmps64
    go_wp2_with fail
    refine HF.out.mono ?_
    rintro e w' ⟨rfl, rfl⟩
    go_wp2
    go_ret
    exact ⟨0, rfl, HP.out⟩
  · have HP := Lib.hid (Stf.keep h (Below.refl _ _) (R := fun T' => IT.isCut T ki.toNat (fileE (T ki.toNat)) T') (cut_stay hz))
    have hb := fileE_bad hz
    generalize fileE (T ki.toNat) = e0 at *
    clear hz h
    rcases hb with rfl | rfl | rfl
    all_goals
      go_enter Try.func64, Try.ntmps64
      go_wp2_with fail
      refine HF.out.mono ?_
      rintro e w' ⟨rfl, rfl⟩
      go_wp2
      go_ret
      exact ⟨_, rfl, HP.out⟩
theorem rest_small (d : ByteArray) (a : Nat) (s : ByteArray) (h : a + s.size < d.size) : putAt d a s = d.extract 0 a ++ s ++ d.extract (a + s.size) d.size := by
  unfold putAt; rw [Nat.min_eq_right (by omega)]
theorem rest_none (d : ByteArray) (a : Nat) (s : ByteArray) (h : ¬ a + s.size < d.size) : putAt d a s = d.extract 0 a ++ s ++ ⟨#[]⟩ := by
  unfold putAt; rw [Nat.min_eq_left (by omega)]
  congr 1
  apply ByteArray.ext
  simp
set_option maxHeartbeats 2000000 in
theorem rf_put {w : World} {t B : Nat} {G : Gt} {T : IT.Tr} (h : Trf w t B G T) (ki a : Int) (s : ByteArray) (hsz : s.size ≤ maxLen) (ha1 : -9223372036854775808 ≤ a):
    Calls Try.prog 63 #[.pointer (some ⟨t, 0, none⟩), .int .i64 ki, .int .i64 a, .string s] w fun e w' => ∃ r, e = .returned (.int .i64 r) ∧ Stf w t B (fun T' => IT.isPut T ki.toNat a (bs s) r T') w' := by
  have HF := Lib.hid (rf_file h ki)
  by_cases hz : fileE (T ki.toNat) = 0
  · obtain ⟨m, hm, hm1, hm2⟩ := fileE_ok hz
    rw [hz] at HF
    obtain ⟨k, rfl, hk1, hk2, hk⟩ := h.nat hm
    have c0 := h.rep.cellT
    have hkp := h.ties.sok k m hk
    have b8 := h.rep.c8 k hk2
    have s8 := h.rep.frozen (k * 10 + 8)
    have hd4 : (G k).data.size ≤ 4096 := by have := h.snd.1.size k m hk; rw [← hkp.data, bs_len] at this; exact this
    have hdl : m.data.length = (G k).data.size := by rw [← hkp.data, bs_len]
    have hsl := bs_len s
    have hstay : ∀ r : Int, IT.isPut T (k : Int).toNat a (bs s) r T → Hid (Stf w t B (fun T' => IT.isPut T (k : Int).toNat a (bs s) r T') w) := fun r hr => Lib.hid (Stf.keep h (Below.refl _ _) hr)
    by_cases hbad : a < 0 ∨ ((G k).data.size : Int) < a
    · have HP := hstay 1 (by unfold IT.isPut; rw [hm]; dsimp only; rw [if_neg hm1, if_neg hm2, if_pos (by rw [hdl]; omega)]; exact ⟨rfl, rfl⟩)
      clear hstay h hm hk hkp hm1 hm2 hz hdl hsl hd4
      generalize (G k).data = d at *
      by_cases h1 : a < 0
      · clear hbad
        go_enter Try.func63, Try.ntmps63
        go_wp2_with fail
        refine HF.out.mono ?_
        rintro e w' ⟨rfl, rfl⟩
        go_wp2
        go_ret
        exact ⟨1, rfl, HP.out⟩
      · have h2 : (d.size : Int) < a := by omega
        clear hbad
        go_enter Try.func63, Try.ntmps63
        go_wp2_with fail
        refine HF.out.mono ?_
        rintro e w' ⟨rfl, rfl⟩
        go_wp2
        go_ret
        exact ⟨1, rfl, HP.out⟩
    · obtain ⟨n, rfl⟩ : ∃ n : Nat, a = (n : Int) := ⟨a.toNat, by omega⟩
      have hn : n ≤ (G k).data.size := by omega
      by_cases hfull : 4096 < s.size + n
      · have HP := hstay 9 (by unfold IT.isPut; rw [hm]; dsimp only; rw [if_neg hm1, if_neg hm2, if_neg (by rw [hdl]; omega), if_pos (by rw [hsl]; omega)]; exact ⟨rfl, rfl⟩)
        have e1 : (n : Int) ≤ (G k).data.size := by omega
        have e2 : (n : Int) ≤ 4096 := by omega
        have e3 : 4096 - (n : Int) < s.size := by omega
        clear hstay h hm hk hkp hm1 hm2 hz hdl hsl hd4 hbad hn hfull ha1
        generalize (G k).data = d at *
        go_enter Try.func63, Try.ntmps63
        go_wp2_with fail
        refine HF.out.mono ?_
        rintro e w' ⟨rfl, rfl⟩
        go_wp2
        go_ret
        exact ⟨9, rfl, HP.out⟩
      · have hkp' := hkp.setData (putAt (G k).data n s) _ (putAt_bs (G k).data n s)
        have hle := putAt_le (G k).data n s hd4 hn (by omega)
        have HP : Hid (Stf w t B (fun T' => IT.isPut T (k : Int).toNat (n : Int) (bs s) 0 T') (w.setCell ⟨B, k * 10 + 8, none⟩ (.string (putAt (G k).data n s))).drew) := Lib.hid (by
          refine ⟨_, _, ((Mo.refl _ _).set _).drew, (h.rep.set hk2 (show 8 < 10 by omega) (.string (putAt (G k).data n s)) { G k with data := putAt (G k).data n s } rfl (h.rep.ents k hk2)).below (Below.refl _ _).drew, h.ties.set k hkp', ?_⟩
          unfold IT.isPut; rw [hm]; dsimp only; rw [if_neg hm1, if_neg hm2, if_neg (by rw [hdl]; omega), if_neg (by rw [hsl]; omega), hkp.data]; exact ⟨rfl, rfl⟩)
        have e1 : (n : Int) ≤ (G k).data.size := by omega
        have e2 : (n : Int) ≤ 4096 := by omega
        have e3 : (s.size : Int) + n ≤ 4096 := by omega
        have e4 : ((G k).data.size : Int) ≤ 4096 := by omega
        have hr1 := rest_small (G k).data n s
        have hr2 := rest_none (G k).data n s
        have HR1 := Lib.hid hr1
        have HR2 := Lib.hid hr2
        clear hstay h hm hk hkp hm1 hm2 hz hdl hsl hd4 hbad hn hfull ha1 hkp' hle hr1 hr2
        generalize (G k).data = d at *
        by_cases hrest : n + s.size < d.size
        · have HX := Lib.hid (HR1.out hrest)
          have hi : (n : Int) + s.size < d.size := by omega
          clear HR1 HR2 hrest
          go_enter Try.func63, Try.ntmps63
          go_wp2_with fail
          refine HF.out.mono ?_
          rintro e w' ⟨rfl, rfl⟩
          go_wp2
          go_region
          go_wp2
          go_ret
          rw [← HX.out]
          exact ⟨0, rfl, HP.out⟩
        · have HX := Lib.hid (HR2.out hrest)
          have hi : (d.size : Int) ≤ (n : Int) + s.size := by omega
          clear HR1 HR2 hrest
          go_enter Try.func63, Try.ntmps63
          go_wp2_with fail
          refine HF.out.mono ?_
          rintro e w' ⟨rfl, rfl⟩
          go_wp2
          go_region
          go_wp2
          go_ret
          rw [← HX.out]
          exact ⟨0, rfl, HP.out⟩
  · have HP := Lib.hid (Stf.keep h (Below.refl _ _) (R := fun T' => IT.isPut T ki.toNat a (bs s) (fileE (T ki.toNat)) T') (put_stay a (bs s) hz))
    have hb := fileE_bad hz
    generalize fileE (T ki.toNat) = e0 at *
    clear hz h hsz ha1
    rcases hb with rfl | rfl | rfl
    all_goals
      go_enter Try.func63, Try.ntmps63
      go_wp2_with fail
      refine HF.out.mono ?_
      rintro e w' ⟨rfl, rfl⟩
      go_wp2
      go_ret
      exact ⟨_, rfl, HP.out⟩
end Go.Proofs.Ytafonmnfeibaiaa.RF
namespace Go.Proofs.Ytafonmnfeibaiaa.RF
open Go.RowKit

/-! ### the document's tree: Look, Stat -/
theorem look_idx (s : ByteArray) : ∀ l : List (ByteArray × Nat), (look l s = none ∧ ∀ p ∈ l, p.1 ≠ s) ∨ ∃ i x, look l s = some x ∧ l[i]? = some (s, x) ∧ ∀ (j : Nat) (p : ByteArray × Nat), j < i → l[j]? = some p → p.1 ≠ s
  | [] => .inl ⟨rfl, fun p hp => by cases hp⟩
  | q :: l => by
    by_cases hq : q.1 = s
    · refine .inr ⟨0, q.2, ?_, ?_, fun j p hj => by omega⟩
      · unfold look; rw [List.find?_cons, decide_eq_true hq]; rfl
      · rw [← hq]; rfl
    · have e : look (q :: l) s = look l s := by unfold look; rw [List.find?_cons, decide_eq_false hq]
      rcases look_idx s l with ⟨h1, h2⟩ | ⟨i, x, h1, h2, h3⟩
      · refine .inl ⟨e.trans h1, fun p hp => ?_⟩
        rcases List.mem_cons.1 hp with rfl | hp
        · exact hq
        · exact h2 p hp
      · refine .inr ⟨i + 1, x, e.trans h1, h2, fun j p hj hp => ?_⟩
        cases j with
        | zero => obtain rfl : q = p := by simpa using hp
                  exact hq
        | succ j => exact h3 j p (by omega) (by simpa using hp)
theorem Tie.find {G : Gt} {T : IT.Tr} (h : Tie G T) (hs : IT.Sound0 okN T) {k : Nat} {m : IT.Nd} (hk : T k = some m) (s : ByteArray) : (IT.findN (bs s) m.names = none ∧ ∀ p ∈ (G k).ents, p.1 ≠ s) ∨ ∃ i x, IT.findN (bs s) m.names = some x ∧ (G k).ents[i]? = some (s, x) ∧ ∀ (j : Nat) (p : ByteArray × Nat), j < i → (G k).ents[j]? = some p → p.1 ≠ s := by
  have e : IT.findN (bs s) m.names = look (G k).ents s := by
    rw [← IT.perm_find (hs.ord k m hk) (h.sok k m hk).names, look_find]
  rw [e]
  exact look_idx s _
set_option maxHeartbeats 1000000 in
theorem rf_look_no {w : World} {t B : Nat} {G : Gt} {T : IT.Tr} (h : Trf w t B G T) (ki : Int) (s : ByteArray) (hd : dirB (T ki.toNat) = false) :
    Calls Try.prog 71 #[.pointer (some ⟨t, 0, none⟩), .int .i64 ki, .string s] w fun e w' => e = .returned (.tuple #[.int .i64 0, .bool false]) ∧ w = w' := by
  have HD := Lib.hid (rf_dir h ki)
  rw [hd] at HD
  clear h hd
  go_enter Try.func71, Try.ntmps71
  go_wp2_with fail
  refine HD.out.mono ?_
  rintro e w' ⟨rfl, rfl⟩
  go_wp2
  go_ret2
  exact ⟨rfl, rfl⟩
set_option maxHeartbeats 1000000 in
theorem rf_look_dir {w : World} {t B : Nat} {G : Gt} {T : IT.Tr} (h : Trf w t B G T) (ki : Int) (s : ByteArray) {m : IT.Nd} (hm : T ki.toNat = some m) (hd : m.kind = 1) :
    Calls Try.prog 71 #[.pointer (some ⟨t, 0, none⟩), .int .i64 ki, .string s] w fun e w' => e = .returned (lookV (lookT T ki.toNat (bs s))) ∧ w = w' := by
  obtain ⟨k, rfl, hk1, hk2, hk⟩ := h.nat hm
  have HD := Lib.hid (rf_dir h (k : Int))
  rw [hm, show dirB (some m) = true from by unfold dirB; simpa using hd] at HD
  have c0 := h.rep.cellT
  have hkp := h.ties.sok k m hk
  have e1 : s.toList = bs s := ByteArray.toList_eq s
  have HL : Hid (lookT T (k : Int).toNat (bs s) = if bs s = [46] then some k else if bs s = [46, 46] then some m.parent else IT.findN (bs s) m.names) := Lib.hid (by
    unfold lookT; rw [hm]; dsimp only; rw [if_neg (fun hh => hh hd)]; rfl)
  by_cases d1 : bs s = [46]
  · have z1 : (s.toList == [46]) = true := by rw [e1, d1]; rfl
    rw [HL.out, if_pos d1]
    clear h hm hk hkp e1 HL d1
    go_enter Try.func71, Try.ntmps71
    go_wp2_with fail
    refine HD.out.mono ?_
    rintro e w' ⟨rfl, rfl⟩
    go_wp2
    go_ret2
    exact ⟨rfl, rfl⟩
  · have z1 : (s.toList == [46]) = false := by rw [e1]; exact beq_eq_false_iff_ne.2 d1
    by_cases d2 : bs s = [46, 46]
    · have z2 : (s.toList == [46, 46]) = true := by rw [e1, d2]; rfl
      have b7 := h.rep.c7 k hk2
      rw [hkp.parent hd] at b7
      rw [HL.out, if_neg d1, if_pos d2]
      clear h hm hk hkp e1 HL d1 d2
      go_enter Try.func71, Try.ntmps71
      go_wp2_with fail
      refine HD.out.mono ?_
      rintro e w' ⟨rfl, rfl⟩
      go_wp2
      go_ret2
      exact ⟨rfl, rfl⟩
    · have z2 : (s.toList == [46, 46]) = false := by rw [e1]; exact beq_eq_false_iff_ne.2 d2
      rw [HL.out, if_neg d1, if_neg d2]
      rcases h.ties.find h.snd.1 hk s with ⟨g1, g2⟩ | ⟨i, x, g1, g2, g3⟩
      · have HA := Lib.hid (rf_at_none h.rep k hk2 s g2)
        rw [g1]
        clear h hm hk hkp e1 HL d1 d2 g1 g2
        go_enter Try.func71, Try.ntmps71
        go_wp2_with fail
        refine HD.out.mono ?_
        rintro e w' ⟨rfl, rfl⟩
        go_wp2_with fail
        refine HA.out.mono ?_
        rintro e w' ⟨rfl, rfl⟩
        go_wp2
        go_ret2
        exact ⟨rfl, rfl⟩
      · have HA := Lib.hid (rf_at_some h.rep k hk2 s g2 g3)
        rw [g1]
        have b9 := h.rep.c9 k hk2
        obtain ⟨a, cap, hs, hl1, hl2, hl3⟩ := (h.rep.ents k hk2).lit
        rw [hs] at b9
        obtain ⟨g, rfl, f1, f2⟩ := hl3 i _ g2
        have hil : i < (G k).ents.length := (List.getElem?_eq_some_iff.1 g2).1
        have hl40 : (G k).ents.length ≤ 40 := h.ties.few h.snd.1 k hk2
        generalize (G k).ents.length = L at *
        clear h hm hk hkp e1 HL d1 d2 g1 g2 g3 hl1 hl2 hl3 hs f1
        go_enter Try.func71, Try.ntmps71
        go_wp2_with fail
        refine HD.out.mono ?_
        rintro e w' ⟨rfl, rfl⟩
        go_wp2_with fail
        refine HA.out.mono ?_
        rintro e w' ⟨rfl, rfl⟩
        go_wp2
        go_ret2
        exact ⟨rfl, rfl⟩
theorem rf_look {w : World} {t B : Nat} {G : Gt} {T : IT.Tr} (h : Trf w t B G T) (ki : Int) (s : ByteArray) :
    Calls Try.prog 71 #[.pointer (some ⟨t, 0, none⟩), .int .i64 ki, .string s] w fun e w' => e = .returned (lookV (lookT T ki.toNat (bs s))) ∧ w = w' := by
  cases hm : T ki.toNat with
  | none =>
    refine (rf_look_no h ki s (by rw [hm]; rfl)).mono ?_
    rintro e w' ⟨rfl, rfl⟩
    refine ⟨?_, rfl⟩
    unfold lookT; rw [hm]; rfl
  | some m =>
    by_cases hd : m.kind = 1
    · exact rf_look_dir h ki s hm hd
    · refine (rf_look_no h ki s (by rw [hm]; unfold dirB; simpa using hd)).mono ?_
      rintro e w' ⟨rfl, rfl⟩
      refine ⟨?_, rfl⟩
      unfold lookT; rw [hm]; dsimp only; rw [if_pos hd]; rfl
end Go.Proofs.Ytafonmnfeibaiaa.RF
namespace Go.Proofs.Ytafonmnfeibaiaa
open Go.RowKit

theorem belowDrewN {B : Nat} {a w : World} (h : Below B a w) (n : Nat) : Below B a (w.drewN n) := h.trans ⟨rfl, rfl, rfl, Nat.le_refl _, fun _ _ => rfl⟩
theorem info55 : (Try.prog.info? 86).map (fun i => i.size) = some 12 := by kernel_rfl
theorem neq_nodes {w : World} {b c : Nat} {C D : Array Value} {T U : TypeId} (hb : w.heap[b]? = some (.cells C T (0, 0))) (hc : w.heap[c]? = some (.cells D U (0, 0))) (hne : b ≠ c) :
    (binOp .neq 68 (.pointer (some ⟨b, 0, none⟩)) (.pointer (some ⟨c, 0, none⟩))).run Try.prog w = .ok (.bool true) w := by
  obtain ⟨j, hj, hsz⟩ : ∃ j, Try.prog.info? 86 = some j ∧ j.size = 12 := by
    have := info55
    cases h : Try.prog.info? 86 with
    | none => rw [h] at this; simp at this
    | some j => rw [h] at this; exact ⟨j, rfl, by simpa using this⟩
  have h : ∀ d : Nat, (Op.equalIn (d + 1) 68 (.pointer (some ⟨b, 0, none⟩)) (.pointer (some ⟨c, 0, none⟩))).run Try.prog w = .ok false w := fun d => by
    simp [Op.equalIn, run_underlying Try.underlying68, sizeOf, typeInfo, hj, hsz, run_sameAddr_other (a := ⟨b, 0, none⟩) (b := ⟨c, 0, none⟩) w (fun e => hne (by cases e; rfl)) hb hc]
  simp only [binOp]
  simp [Op.equal, Op.maxDepth, h 9999]
theorem eql_nodes {w : World} {b c : Nat} {C D : Array Value} {T U : TypeId} (hb : w.heap[b]? = some (.cells C T (0, 0))) (hc : w.heap[c]? = some (.cells D U (0, 0))) (hne : b ≠ c) :
    (binOp .eql 68 (.pointer (some ⟨b, 0, none⟩)) (.pointer (some ⟨c, 0, none⟩))).run Try.prog w = .ok (.bool false) w := by
  obtain ⟨j, hj, hsz⟩ : ∃ j, Try.prog.info? 86 = some j ∧ j.size = 12 := by
    have := info55
    cases h : Try.prog.info? 86 with
    | none => rw [h] at this; simp at this
    | some j => rw [h] at this; exact ⟨j, rfl, by simpa using this⟩
  exact run_eql_ptr_other (a := ⟨b, 0, none⟩) (b := ⟨c, 0, none⟩) w Try.underlying68 hj (by omega) (fun e => hne (by cases e; rfl)) hb hc

theorem neq_self (w : World) (b : Nat) : (binOp .neq 68 (.pointer (some ⟨b, 0, none⟩)) (.pointer (some ⟨b, 0, none⟩))).run Try.prog w = .ok (.bool false) w := by
  obtain ⟨j, hj, hsz⟩ : ∃ j, Try.prog.info? 86 = some j ∧ j.size = 12 := by
    have := info55
    cases h : Try.prog.info? 86 with
    | none => rw [h] at this; simp at this
    | some j => rw [h] at this; exact ⟨j, rfl, by simpa using this⟩
  exact Lib.run_neq_ptr_same w ⟨b, 0, none⟩ Try.underlying68 hj
theorem eql_self (w : World) (b : Nat) : (binOp .eql 68 (.pointer (some ⟨b, 0, none⟩)) (.pointer (some ⟨b, 0, none⟩))).run Try.prog w = .ok (.bool true) w := by
  obtain ⟨j, hj, hsz⟩ : ∃ j, Try.prog.info? 86 = some j ∧ j.size = 12 := by
    have := info55
    cases h : Try.prog.info? 86 with
    | none => rw [h] at this; simp at this
    | some j => rw [h] at this; exact ⟨j, rfl, by simpa using this⟩
  exact run_eql_ptr_same w ⟨b, 0, none⟩ Try.underlying68 hj

/-! ### Whether a directory stands within another one -/
/-- The rank of a pointer to a node. -/
noncomputable def rkV (S : Tab) (h : Nat → Nat) (v : Value) : Nat := @dite _ (∃ k b n, S k = some (b, n) ∧ v = .pointer (some ⟨b, 0, none⟩)) (Classical.propDecidable _) (fun hh => h (Classical.choose hh)) (fun _ => 0)
theorem rkV_eq {w : World} {t : Nat} {S : Tab} (hr : Rep w t S) (h : Nat → Nat) {k b : Nat} {n : Nd} (hk : S k = some (b, n)) : rkV S h (.pointer (some ⟨b, 0, none⟩)) = h k := by
  have hh : ∃ k' b' n', S k' = some (b', n') ∧ Value.pointer (some ⟨b, 0, none⟩) = .pointer (some ⟨b', 0, none⟩) := ⟨k, b, n, hk, rfl⟩
  unfold rkV
  rw [dif_pos hh]
  obtain ⟨b', n', h1, h2⟩ := Classical.choose_spec hh
  have e : b = b' := by cases h2; rfl
  subst e
  rw [hr.inj _ _ _ _ _ h1 hk]
theorem Rep.drewN {w : World} {t : Nat} {S : Tab} (h : Rep w t S) (n : Nat) : Rep (w.drewN n) t S := h.same (fun _ _ => rfl)
/-- Where within's loop stands. -/
def WL (w : World) (S : Tab) (T : IT.Tr) (x d : Nat) (v : Value) (wr : World) : Prop := ∃ (k b : Nat) (n : Nd) (m : IT.Nd), v = .pointer (some ⟨b, 0, none⟩) ∧ S k = some (b, n) ∧ T k = some m ∧ m.kind = 1 ∧ (IT.Bel T x d ↔ IT.Bel T x k) ∧ ∃ z, wr = w.drewN z

set_option maxHeartbeats 800000 in
theorem within_any {w : World} {t b c d x : Nat} {S : Tab} {T : IT.Tr} {n m : Nd} {q : IT.Nd} (h : Tre w t S T) (hd : S d = some (b, n)) (hx : S x = some (c, m)) (hq : T d = some q) (hk1 : q.kind = 1) :
    Calls Try.prog 51 #[.pointer (some ⟨t, 0, none⟩), .pointer (some ⟨b, 0, none⟩), .pointer (some ⟨c, 0, none⟩)] w fun e w' => ∃ r : Bool, e = .returned (.bool r) ∧ (r = true ↔ IT.Bel T x d) ∧ Below w.heap.size w w' := by
  obtain ⟨rk, hrk1, hrk2⟩ := h.snd.1.rank
  have HR := Lib.hid h
  have HX := Lib.hid hx
  have HS : Hid (WL w S T x d (.pointer (some ⟨b, 0, none⟩)) w) := Lib.hid ⟨d, b, n, q, rfl, hd, hq, hk1, Iff.rfl, 0, rfl⟩
  have HK2 := Lib.hid hrk2
  clear h hx hd hq hk1 hrk1 hrk2
  go_enter Try.func51, Try.ntmps51
  go_wp2
  go_loopw [1] (fun v wr => WL w S T x d v wr) (fun v _ => rkV S rk v)
  case atStart => exact HS.out
  case round =>
    obtain ⟨k, b', n', m', rfl, hk, hT, hkd, hiff, z, hz⟩ := hrel
    have hrep : Rep wr t S := by rw [hz]; exact HR.out.rep.drewN z
    have HZ := Lib.hid hz
    have HI := Lib.hid hiff
    have HKd := Lib.hid hkd
    have hkp := HR.out.ties.kept (kpOf_some hk) hT
    have hpar : n'.parent = m'.parent := hkp.parent
    have c0 := hrep.c0 hk
    have c11 := hrep.c11 hk
    rw [hrep.ino k b' n' hk] at c0
    by_cases hkx : k = x
    · have hbc : b' = c := by
        have := HX.out
        rw [← hkx, hk] at this
        exact (Prod.mk.inj (Option.some.inj this)).1
      subst hbc
      have q1 : ∀ i, (binOp .neq 68 (.pointer (some ⟨b', 0, none⟩)) (.pointer (some ⟨b', 0, none⟩))).run Try.prog (wr.drewN i) = .ok (.bool false) (wr.drewN i) := fun i => neq_self _ _
      have q2 : ∀ i, (binOp .eql 68 (.pointer (some ⟨b', 0, none⟩)) (.pointer (some ⟨b', 0, none⟩))).run Try.prog (wr.drewN i) = .ok (.bool true) (wr.drewN i) := fun i => eql_self _ _
      have HE : Hid (IT.Bel T x d) := Lib.hid (HI.out.2 (by rw [hkx]; exact .self))
      clear hz hiff hkd hkp hpar hk hT hrep hkx
      go_wp2
      go_quiet (fail)
      go_wp2
      go_ret
      refine ⟨true, rfl, ⟨fun _ => HE.out, fun _ => rfl⟩, ?_⟩
      rw [HZ.out]
      exact belowDrewN (belowDrewN (Below.refl _ _) _) _
    · have hbc : b' ≠ c := fun e => hkx (HR.out.rep.inj _ _ _ _ _ hk (e ▸ HX.out))
      have q1 : ∀ i, (binOp .neq 68 (.pointer (some ⟨b', 0, none⟩)) (.pointer (some ⟨c, 0, none⟩))).run Try.prog (wr.drewN i) = .ok (.bool true) (wr.drewN i) := fun i => neq_nodes (w := wr.drewN i) ((hrep.drewN i).node k b' n' hk) ((hrep.drewN i).node x c m HX.out) hbc
      have q2 : ∀ i, (binOp .eql 68 (.pointer (some ⟨b', 0, none⟩)) (.pointer (some ⟨c, 0, none⟩))).run Try.prog (wr.drewN i) = .ok (.bool false) (wr.drewN i) := fun i => eql_nodes (w := wr.drewN i) ((hrep.drewN i).node k b' n' hk) ((hrep.drewN i).node x c m HX.out) hbc
      by_cases hp : m'.parent = k
      · have HE : Hid (¬ IT.Bel T x d) := Lib.hid (fun hh => IT.bel_top hT hkx hp (HI.out.1 hh))
        rw [hpar, hp] at c11
        clear hz hiff hkd hkp hpar hk hT hrep hkx hp hbc
        go_wp2
        go_quiet (fail)
        go_wp2
        go_ret
        refine ⟨false, rfl, ⟨fun hh => (by cases hh), fun hh => absurd hh HE.out⟩, ?_⟩
        rw [HZ.out]
        exact belowDrewN (belowDrewN (Below.refl _ _) _) _
      · obtain ⟨hlt, m2, hm2, hm2k⟩ := HK2.out k m' hT hkd hp
        obtain ⟨b2, n2, hS2, _⟩ := HR.out.back hm2
        have hrg := HR.out.rep.rng _ _ hS2
        rw [hpar] at c11
        have ct : wr.cell? ⟨t, m'.parent, none⟩ = some (.pointer (some ⟨b2, 0, none⟩)) := by rw [hrep.cellT _ (by omega), hS2]; rfl
        have hn1 : ((m'.parent : Int) != (k : Int)) = true := by
          have : ¬ (m'.parent : Int) = k := by omega
          simpa using this
        have hn2 : ((m'.parent : Int) == (k : Int)) = false := by
          have : ¬ (m'.parent : Int) = k := by omega
          simpa using this
        have hb1 : 1 ≤ (m'.parent : Int) := by omega
        have hb2 : (m'.parent : Int) ≤ 200 := by omega
        have HW : Hid (∀ j, WL w S T x d (.pointer (some ⟨b2, 0, none⟩)) (wr.drewN j)) := Lib.hid (fun j => ⟨m'.parent, b2, n2, m2, rfl, hS2, hm2, hm2k, HI.out.trans (IT.bel_step hT hkd hkx hp), z + j, by rw [hz]; show _ = _; rw [World.drewN_drewN]⟩)
        have HM : Hid (rkV S rk (.pointer (some ⟨b2, 0, none⟩)) < rkV S rk (.pointer (some ⟨b', 0, none⟩))) := Lib.hid (by rw [rkV_eq HR.out.rep rk hS2, rkV_eq HR.out.rep rk hk]; exact hlt)
        clear hz hiff hkd hkp hpar hk hT hrep hkx hp hbc hlt hm2 hm2k hS2 hrg
        go_wp2
        go_quiet (fail)
        go_wp2
        go_quiet (fail)
        go_wp2
        go_roundw
        case rel =>
          have e := HW.out
          first | exact e _ | (simp only [World.drewN_drewN]; exact e _)
        case measure => exact HM.out
end Go.Proofs.Ytafonmnfeibaiaa
namespace Go.Proofs.Ytafonmnfeibaiaa
open Go.RowKit

/-! ### Enter -/
theorem tt_eq {b : Bool} (h : b = true) : b = true := h
set_option maxHeartbeats 400000 in
theorem enter_no {w : World} {t : Nat} {S : Tab} (h : Rep w t S) (d i : Int) (s : ByteArray) (hn : S d.toNat = none ∨ S i.toNat = none) :
    Calls Try.prog 22 #[.pointer (some ⟨t, 0, none⟩), .int .i64 d, .string s, .int .i64 i] w fun e w' => e = .returned (.int .i64 3) ∧ w = w' := by
  have H := Lib.hid h
  have HN := Lib.hid hn
  clear h hn
  go_enter Try.func22, Try.ntmps22
  go_wp2_with fail
  refine (pair_none H.out _ _ HN.out).mono ?_
  rintro e w' ⟨rfl, rfl⟩
  go_wp2
  go_ret
  exact ⟨rfl, rfl⟩
set_option maxHeartbeats 400000 in
theorem enter_nodir {w : World} {t bd bn : Nat} {S : Tab} {nd nn : Nd} (h : Rep w t S) (d i : Int) (hd : S d.toNat = some (bd, nd)) (hi : S i.toNat = some (bn, nn)) (s : ByteArray) (hkd : ¬ nd.kind = 1) :
    Calls Try.prog 22 #[.pointer (some ⟨t, 0, none⟩), .int .i64 d, .string s, .int .i64 i] w fun e w' => e = .returned (.int .i64 6) ∧ w = w' := by
  have c1 := h.c1 hd
  have hkb : (nd.kind != 1) = true := by simpa using hkd
  have H := Lib.hid h
  have HD := Lib.hid hd
  have HI := Lib.hid hi
  clear h hd hi hkd
  go_enter Try.func22, Try.ntmps22
  go_wp2_with fail
  refine (pair_ok H.out _ _ HD.out HI.out).mono ?_
  rintro e w' ⟨rfl, rfl⟩
  go_wp2
  go_ret
  exact ⟨rfl, rfl⟩
set_option maxHeartbeats 400000 in
theorem enter_noname {w : World} {t bd bn : Nat} {S : Tab} {nd nn : Nd} (h : Rep w t S) (d i : Int) (hd : S d.toNat = some (bd, nd)) (hi : S i.toNat = some (bn, nn)) (s : ByteArray) (hkd : nd.kind = 1) (hs : nameB s = false) :
    Calls Try.prog 22 #[.pointer (some ⟨t, 0, none⟩), .int .i64 d, .string s, .int .i64 i] w fun e w' => e = .returned (.int .i64 1) ∧ w = w' := by
  have c1 : w.cell? ⟨bd, 1, none⟩ = some (.int .i64 1) := by rw [h.c1 hd, hkd]
  have HK := Lib.hid hkd
  have H := Lib.hid h
  have HD := Lib.hid hd
  have HI := Lib.hid hi
  clear h hd hi hkd
  go_enter Try.func22, Try.ntmps22
  go_wp2_with fail
  refine (pair_ok H.out _ _ HD.out HI.out).mono ?_
  rintro e w' ⟨rfl, rfl⟩
  go_wp2_with fail
  refine (name_any _ _).mono ?_
  rintro e w' ⟨rfl, rfl⟩
  go_wp2
  go_ret
  exact ⟨rfl, rfl⟩
set_option maxHeartbeats 400000 in
theorem enter_is {w : World} {t bd bn : Nat} {S : Tab} {nd nn : Nd} (h : Rep w t S) (d i : Int) (hd : S d.toNat = some (bd, nd)) (hi : S i.toNat = some (bn, nn)) (s : ByteArray) (hkd : nd.kind = 1) (hs : nameB s = true) {x by_ : Nat} {ny : Nd} (hl : look nd.names s = some x) (hy : S x = some (by_, ny)) :
    Calls Try.prog 22 #[.pointer (some ⟨t, 0, none⟩), .int .i64 d, .string s, .int .i64 i] w fun e w' => e = .returned (.int .i64 5) ∧ w = w' := by
  have c1 : w.cell? ⟨bd, 1, none⟩ = some (.int .i64 1) := by rw [h.c1 hd, hkd]
  have HK := Lib.hid hkd
  have HL := Lib.hid hl
  have HY := Lib.hid hy
  have H := Lib.hid h
  have HD := Lib.hid hd
  have HI := Lib.hid hi
  clear h hd hi hkd hl hy
  go_enter Try.func22, Try.ntmps22
  go_wp2_with fail
  refine (pair_ok H.out _ _ HD.out HI.out).mono ?_
  rintro e w' ⟨rfl, rfl⟩
  go_wp2_with fail
  refine (name_any _ _).mono ?_
  rintro e w' ⟨rfl, rfl⟩
  go_wp2_with fail
  refine (entry_some H.out HD.out HK.out _ _ HL.out HY.out).mono ?_
  rintro e w' ⟨rfl, rfl⟩
  go_wp2
  go_ret
  exact ⟨rfl, rfl⟩
set_option maxHeartbeats 400000 in
theorem enter_root {w : World} {t bd bn : Nat} {S : Tab} {nd nn : Nd} (h : Rep w t S) (d i : Int) (hd : S d.toNat = some (bd, nd)) (hi : S i.toNat = some (bn, nn)) (s : ByteArray) (hkd : nd.kind = 1) (hs : nameB s = true) (hl : look nd.names s = none) (hi1 : i = 1) :
    Calls Try.prog 22 #[.pointer (some ⟨t, 0, none⟩), .int .i64 d, .string s, .int .i64 i] w fun e w' => e = .returned (.int .i64 12) ∧ w = w' := by
  have c1 : w.cell? ⟨bd, 1, none⟩ = some (.int .i64 1) := by rw [h.c1 hd, hkd]
  have HK := Lib.hid hkd
  have HL := Lib.hid hl
  have hib : (i == 1) = true := by simpa using hi1
  have H := Lib.hid h
  have HD := Lib.hid hd
  have HI := Lib.hid hi
  clear h hd hi hkd hl hi1
  go_enter Try.func22, Try.ntmps22
  go_wp2_with fail
  refine (pair_ok H.out _ _ HD.out HI.out).mono ?_
  rintro e w' ⟨rfl, rfl⟩
  go_wp2_with fail
  refine (name_any _ _).mono ?_
  rintro e w' ⟨rfl, rfl⟩
  go_wp2_with fail
  refine (entry_none H.out HD.out HK.out _ HL.out).mono ?_
  rintro e w' ⟨rfl, rfl⟩
  go_wp2
  go_ret
  exact ⟨rfl, rfl⟩
set_option maxHeartbeats 400000 in
theorem enter_manyd {w : World} {t bd bn : Nat} {S : Tab} {nd nn : Nd} (h : Rep w t S) (d i : Int) (hd : S d.toNat = some (bd, nd)) (hi : S i.toNat = some (bn, nn)) (s : ByteArray) (hkd : nd.kind = 1) (hs : nameB s = true) (hl : look nd.names s = none) (hi1 : i ≠ 1) (hkn : nn.kind = 1) (hlk : 0 < nn.links) :
    Calls Try.prog 22 #[.pointer (some ⟨t, 0, none⟩), .int .i64 d, .string s, .int .i64 i] w fun e w' => e = .returned (.int .i64 12) ∧ w = w' := by
  have c1 : w.cell? ⟨bd, 1, none⟩ = some (.int .i64 1) := by rw [h.c1 hd, hkd]
  have HK := Lib.hid hkd
  have HL := Lib.hid hl
  have hib : (i == 1) = false := by simpa using hi1
  have d1 : w.cell? ⟨bn, 1, none⟩ = some (.int .i64 1) := by rw [h.c1 hi, hkn]
  have d5 := h.c5 hi
  have H := Lib.hid h
  have HD := Lib.hid hd
  have HI := Lib.hid hi
  clear h hd hi hkd hl hi1 hkn
  go_enter Try.func22, Try.ntmps22
  go_wp2_with fail
  refine (pair_ok H.out _ _ HD.out HI.out).mono ?_
  rintro e w' ⟨rfl, rfl⟩
  go_wp2_with fail
  refine (name_any _ _).mono ?_
  rintro e w' ⟨rfl, rfl⟩
  go_wp2_with fail
  refine (entry_none H.out HD.out HK.out _ HL.out).mono ?_
  rintro e w' ⟨rfl, rfl⟩
  go_wp2
  go_ret
  exact ⟨rfl, rfl⟩
set_option maxHeartbeats 400000 in
theorem enter_manyf {w : World} {t bd bn : Nat} {S : Tab} {nd nn : Nd} (h : Rep w t S) (d i : Int) (hd : S d.toNat = some (bd, nd)) (hi : S i.toNat = some (bn, nn)) (s : ByteArray) (hkd : nd.kind = 1) (hs : nameB s = true) (hl : look nd.names s = none) (hi1 : i ≠ 1) (hkn : ¬ nn.kind = 1) (hlk : 8 ≤ nn.links) :
    Calls Try.prog 22 #[.pointer (some ⟨t, 0, none⟩), .int .i64 d, .string s, .int .i64 i] w fun e w' => e = .returned (.int .i64 12) ∧ w = w' := by
  have c1 : w.cell? ⟨bd, 1, none⟩ = some (.int .i64 1) := by rw [h.c1 hd, hkd]
  have HK := Lib.hid hkd
  have HL := Lib.hid hl
  have hib : (i == 1) = false := by simpa using hi1
  have d1 := h.c1 hi
  have d5 := h.c5 hi
  have hkb : (nn.kind == 1) = false := by simpa using hkn
  have H := Lib.hid h
  have HD := Lib.hid hd
  have HI := Lib.hid hi
  clear h hd hi hkd hl hi1 hkn
  go_enter Try.func22, Try.ntmps22
  go_wp2_with fail
  refine (pair_ok H.out _ _ HD.out HI.out).mono ?_
  rintro e w' ⟨rfl, rfl⟩
  go_wp2_with fail
  refine (name_any _ _).mono ?_
  rintro e w' ⟨rfl, rfl⟩
  go_wp2_with fail
  refine (entry_none H.out HD.out HK.out _ HL.out).mono ?_
  rintro e w' ⟨rfl, rfl⟩
  go_wp2
  go_ret
  exact ⟨rfl, rfl⟩
set_option maxHeartbeats 400000 in
theorem enter_fulld {w : World} {t bd bn : Nat} {S : Tab} {nd nn : Nd} (h : Rep w t S) (d i : Int) (hd : S d.toNat = some (bd, nd)) (hi : S i.toNat = some (bn, nn)) (s : ByteArray) (hkd : nd.kind = 1) (hs : nameB s = true) (hl : look nd.names s = none) (hi1 : i ≠ 1) (hkn : nn.kind = 1) (hlk : nn.links = 0) (hn : 40 ≤ nd.names.length) :
    Calls Try.prog 22 #[.pointer (some ⟨t, 0, none⟩), .int .i64 d, .string s, .int .i64 i] w fun e w' => e = .returned (.int .i64 9) ∧ w = w' := by
  obtain ⟨m, hm⟩ := h.dir_mp hd hkd
  have c10 : w.cell? ⟨bd, 10, none⟩ = some (.map (some m)) := by rw [h.c10 hd, hm]
  have hlen : ∀ ty, (Builtin.len_ #[84] ty #[.map (some m)]).run Try.prog w = .ok (.int .i64 nd.names.length) w := fun ty => hm ▸ h.len hd ty
  have c1 : w.cell? ⟨bd, 1, none⟩ = some (.int .i64 1) := by rw [h.c1 hd, hkd]
  have HK := Lib.hid hkd
  have HL := Lib.hid hl
  have hib : (i == 1) = false := by simpa using hi1
  have d1 : w.cell? ⟨bn, 1, none⟩ = some (.int .i64 1) := by rw [h.c1 hi, hkn]
  have d5 : w.cell? ⟨bn, 5, none⟩ = some (.int .i64 0) := by rw [h.c5 hi, hlk]
  have hn1 : 40 ≤ (nd.names.length : Int) := by omega
  have H := Lib.hid h
  have HD := Lib.hid hd
  have HI := Lib.hid hi
  clear h hd hi hkd hl hi1 hkn hlk hm hn
  go_enter Try.func22, Try.ntmps22
  go_wp2_with fail
  refine (pair_ok H.out _ _ HD.out HI.out).mono ?_
  rintro e w' ⟨rfl, rfl⟩
  go_wp2_with fail
  refine (name_any _ _).mono ?_
  rintro e w' ⟨rfl, rfl⟩
  go_wp2_with fail
  refine (entry_none H.out HD.out HK.out _ HL.out).mono ?_
  rintro e w' ⟨rfl, rfl⟩
  go_wp2
  go_ret
  exact ⟨rfl, rfl⟩
set_option maxHeartbeats 400000 in
theorem enter_fullf {w : World} {t bd bn : Nat} {S : Tab} {nd nn : Nd} (h : Rep w t S) (d i : Int) (hd : S d.toNat = some (bd, nd)) (hi : S i.toNat = some (bn, nn)) (s : ByteArray) (hkd : nd.kind = 1) (hs : nameB s = true) (hl : look nd.names s = none) (hi1 : i ≠ 1) (hkn : ¬ nn.kind = 1) (hlk : nn.links < 8) (hn : 40 ≤ nd.names.length) :
    Calls Try.prog 22 #[.pointer (some ⟨t, 0, none⟩), .int .i64 d, .string s, .int .i64 i] w fun e w' => e = .returned (.int .i64 9) ∧ w = w' := by
  obtain ⟨m, hm⟩ := h.dir_mp hd hkd
  have c10 : w.cell? ⟨bd, 10, none⟩ = some (.map (some m)) := by rw [h.c10 hd, hm]
  have hlen : ∀ ty, (Builtin.len_ #[84] ty #[.map (some m)]).run Try.prog w = .ok (.int .i64 nd.names.length) w := fun ty => hm ▸ h.len hd ty
  have c1 : w.cell? ⟨bd, 1, none⟩ = some (.int .i64 1) := by rw [h.c1 hd, hkd]
  have HK := Lib.hid hkd
  have HL := Lib.hid hl
  have hib : (i == 1) = false := by simpa using hi1
  have d1 := h.c1 hi
  have d5 := h.c5 hi
  have hkb : (nn.kind == 1) = false := by simpa using hkn
  have hn1 : 40 ≤ (nd.names.length : Int) := by omega
  have H := Lib.hid h
  have HD := Lib.hid hd
  have HI := Lib.hid hi
  clear h hd hi hkd hl hi1 hkn hm hn
  go_enter Try.func22, Try.ntmps22
  go_wp2_with fail
  refine (pair_ok H.out _ _ HD.out HI.out).mono ?_
  rintro e w' ⟨rfl, rfl⟩
  go_wp2_with fail
  refine (name_any _ _).mono ?_
  rintro e w' ⟨rfl, rfl⟩
  go_wp2_with fail
  refine (entry_none H.out HD.out HK.out _ HL.out).mono ?_
  rintro e w' ⟨rfl, rfl⟩
  go_wp2
  go_ret
  exact ⟨rfl, rfl⟩

/-- What a node is when an entry more leads to it. -/
def Nd.gained (n : Nd) (d : Nat) : Nd := { n with links := n.links + 1, parent := if n.kind = 1 then d else n.parent }
theorem Mv.named {w : World} {t b k : Nat} {S : Tab} {n : Nd} (h : Rep w t S) (hk : S k = some (b, n)) {m : Nat} (hm : n.mp = some m) (s : ByteArray) (x : Nat) (hs : look n.names s = none) (hn : n.names.length < 40) :
    ∃ w1, (Instr.mapUpdate 84 (.map (some m)) (.string s) (.int .i64 (x : Int))).run Try.prog w = .ok () w1 ∧ Mv w t S w1 (upd S k (some (b, { n with names := n.names ++ [(s, x)] }))) := by
  obtain ⟨es, c, hr, hok⟩ := run_update_new Try.underlying84 Try.underlying9 (h.map k b n m hk hm) s x hs
  exact ⟨_, hr, (Mv.refl h).setMap hk hm es c _ hok (by simp; omega)⟩
theorem Mv.gainedFile {w : World} {t b k : Nat} {S : Tab} {n : Nd} (h : Rep w t S) (hk : S k = some (b, n)) (hkd : n.kind ≠ 1) (d : Nat) :
    Mv w t S (w.setCell ⟨b, 5, none⟩ (.int .i64 (n.links + 1))) (upd S k (some (b, n.gained d))) :=
  (Mv.refl h).setNode hk 5 (.int .i64 (n.links + 1)) (n.gained d) (by simp [Nd.gained, Nd.cells, hkd]) rfl rfl rfl rfl (h.small k b n hk).1
theorem Mv.gainedDir {w : World} {t b k : Nat} {S : Tab} {n : Nd} (h : Rep w t S) (hk : S k = some (b, n)) (hkd : n.kind = 1) (d : Nat) :
    Mv w t S ((w.setCell ⟨b, 5, none⟩ (.int .i64 (n.links + 1))).setCell ⟨b, 11, none⟩ (.int .i64 (d : Int))) (upd S k (some (b, n.gained d))) := by
  have hsm := (h.small k b n hk).1
  have h1 := (Mv.refl h).setNode hk 5 (.int .i64 (n.links + 1)) { n with links := n.links + 1 } rfl rfl rfl rfl rfl hsm
  have h2 := h1.setNode (upd_same ..) 11 (.int .i64 (d : Int)) (n.gained d) (by simp [Nd.gained, Nd.cells, hkd]) rfl rfl rfl rfl hsm
  rw [upd_upd] at h2
  exact h2
def entered (S : Tab) (d i : Nat) (bd : Nat) (nd : Nd) (bn : Nat) (nn : Nd) (s : ByteArray) : Tab :=
  upd (upd S d (some (bd, { nd with names := nd.names ++ [(s, i)] }))) i (some (bn, nn.gained d))
set_option maxRecDepth 100000 in
set_option maxHeartbeats 400000 in
theorem enter_file {w : World} {t bd bn : Nat} {S : Tab} {nd nn : Nd} (h : Rep w t S) (d i : Int) (hd : S d.toNat = some (bd, nd)) (hi : S i.toNat = some (bn, nn)) (hkd : nd.kind = 1) (hkn : nn.kind ≠ 1) (s : ByteArray)
    (hs : nameB s = true) (hl : look nd.names s = none) (hi1 : i ≠ 1) (hlk : 0 ≤ nn.links ∧ nn.links < 8) (hn : nd.names.length < 40) :
    Calls Try.prog 22 #[.pointer (some ⟨t, 0, none⟩), .int .i64 d, .string s, .int .i64 i] w fun e w' => e = .returned (.int .i64 0) ∧ Mv w t S w' (entered S d.toNat i.toNat bd nd bn nn s) := by
  obtain ⟨m, hm⟩ := h.dir_mp hd hkd
  have hdi : i.toNat ≠ d.toNat := fun e => by rw [e, hd] at hi; cases hi; exact hkn hkd
  have hdp : ((d.toNat : Nat) : Int) = d := by have := h.rng _ _ hd; omega
  have hip : ((i.toNat : Nat) : Int) = i := by have := h.rng _ _ hi; omega
  obtain ⟨w1, hrun, hmv⟩ := Mv.named h hd hm s i.toNat hl hn
  rw [hip] at hrun
  have hi' : upd S d.toNat (some (bd, { nd with names := nd.names ++ [(s, i.toNat)] })) i.toNat = some (bn, nn) := by rw [upd_other _ _ hdi]; exact hi
  have c1 : w.cell? ⟨bd, 1, none⟩ = some (.int .i64 1) := by rw [h.c1 hd, hkd]
  have c10 : w.cell? ⟨bd, 10, none⟩ = some (.map (some m)) := by rw [h.c10 hd, hm]
  have d1 := h.c1 hi
  have d5 := h.c5 hi
  have e1 := hmv.rep.c1 hi'
  have e5 := hmv.rep.c5 hi'
  have g5 := hmv.rep.frozenN hi' 5
  have hlen : ∀ ty, (Builtin.len_ #[84] ty #[.map (some m)]).run Try.prog w = .ok (.int .i64 nd.names.length) w := fun ty => hm ▸ h.len hd ty
  have hkb : (nn.kind == 1) = false := by simpa using hkn
  have hib : (i == 1) = false := by simpa using hi1
  have hn1 : (nd.names.length : Int) < 40 := by omega
  obtain ⟨hlk1, hlk2⟩ := hlk
  have H := Lib.hid h
  have HD := Lib.hid hd
  have HI := Lib.hid hi
  have HL := Lib.hid hl
  have HM := Lib.hid hmv
  have HI' := Lib.hid hi'
  have HK := Lib.hid hkd
  have HN := Lib.hid hkn
  clear h hd hi hl hmv hi' hkd hkn hi1 hm hdi hn hdp hip
  go_enter Try.func22, Try.ntmps22
  go_wp2_with fail
  refine (pair_ok H.out _ _ HD.out HI.out).mono ?_
  rintro e w' ⟨rfl, rfl⟩
  go_wp2_with fail
  refine (name_any _ _).mono ?_
  rintro e w' ⟨rfl, rfl⟩
  go_wp2_with fail
  refine (entry_none H.out HD.out HK.out _ HL.out).mono ?_
  rintro e w' ⟨rfl, rfl⟩
  go_wp2
  go_ret
  exact ⟨rfl, HM.out.trans (Mv.gainedFile HM.out.rep HI'.out HN.out d.toNat)⟩
set_option maxHeartbeats 800000 in
theorem enter_dir {w : World} {t bd bn : Nat} {S : Tab} {T : IT.Tr} {nd nn : Nd} {q : IT.Nd} (h : Tre w t S T) (d i : Int) (hd : S d.toNat = some (bd, nd)) (hq : T d.toNat = some q) (hi : S i.toNat = some (bn, nn)) (hkd : nd.kind = 1) (hkn : nn.kind = 1) (s : ByteArray)
    (hs : nameB s = true) (hl : look nd.names s = none) (hi1 : i ≠ 1) (hlk : nn.links = 0) (hn : nd.names.length < 40) :
    Calls Try.prog 22 #[.pointer (some ⟨t, 0, none⟩), .int .i64 d, .string s, .int .i64 i] w fun e w' => (IT.Bel T i.toNat d.toNat ∧ e = .returned (.int .i64 8) ∧ Below w.heap.size w w') ∨ (¬ IT.Bel T i.toNat d.toNat ∧ e = .returned (.int .i64 0) ∧ Mv w t S w' (entered S d.toNat i.toNat bd nd bn nn s)) := by
  obtain ⟨m, hm⟩ := h.rep.dir_mp hd hkd
  have hqk : q.kind = 1 := by rw [← (h.ties.kept (kpOf_some hd) hq).kind]; exact hkd
  have hwi := within_any h hd hi hq hqk
  have c1 : w.cell? ⟨bd, 1, none⟩ = some (.int .i64 1) := by rw [h.rep.c1 hd, hkd]
  have c10 : w.cell? ⟨bd, 10, none⟩ = some (.map (some m)) := by rw [h.rep.c10 hd, hm]
  have d1 : w.cell? ⟨bn, 1, none⟩ = some (.int .i64 1) := by rw [h.rep.c1 hi, hkn]
  have d5 : w.cell? ⟨bn, 5, none⟩ = some (.int .i64 0) := by rw [h.rep.c5 hi, hlk]
  have hlen : ∀ ty, (Builtin.len_ #[84] ty #[.map (some m)]).run Try.prog w = .ok (.int .i64 nd.names.length) w := fun ty => hm ▸ h.rep.len hd ty
  have hib : (i == 1) = false := by simpa using hi1
  have hn1 : (nd.names.length : Int) < 40 := by omega
  have H := Lib.hid h.rep
  have HD := Lib.hid hd
  have HI := Lib.hid hi
  have HL := Lib.hid hl
  have HK := Lib.hid hkd
  have HN := Lib.hid hkn
  have HM := Lib.hid hm
  have HO := Lib.hid hlk
  have HQ := Lib.hid hn
  have HW := Lib.hid hwi
  have HDP : Hid (((d.toNat : Nat) : Int) = d) := Lib.hid (by have := h.rep.rng _ _ hd; omega)
  have HIP : Hid (((i.toNat : Nat) : Int) = i) := Lib.hid (by have := h.rep.rng _ _ hi; omega)
  have HX : Hid (∀ b1 : Nat, i.toNat = d.toNat → IT.Bel T i.toNat d.toNat) := Lib.hid (fun _ e => e ▸ .self)
  clear h hd hi hl hkd hkn hi1 hm hn hlk hq hqk hwi
  go_enter Try.func22, Try.ntmps22
  go_wp2_with fail
  refine (pair_ok H.out _ _ HD.out HI.out).mono ?_
  rintro e w' ⟨rfl, rfl⟩
  go_wp2_with fail
  refine (name_any _ _).mono ?_
  rintro e w' ⟨rfl, rfl⟩
  go_wp2_with fail
  refine (entry_none H.out HD.out HK.out _ HL.out).mono ?_
  rintro e w' ⟨rfl, rfl⟩
  go_wp2_with fail
  refine HW.out.mono ?_
  rintro e w' ⟨r, rfl, hr, hb⟩
  have HB := Lib.hid hb
  clear HW
  cases r with
  | true =>
    have HR := Lib.hid (hr.1 rfl)
    clear hr hb c1 c10 d1 d5
    go_wp2
    go_ret
    exact .inl ⟨HR.out, rfl, HB.out⟩
  | false =>
    have HR : Hid (¬ IT.Bel T i.toNat d.toNat) := Lib.hid (fun hh => by cases hr.2 hh)
    have hdi : i.toNat ≠ d.toNat := fun e => HR.out (HX.out 0 e)
    have hmb := (Mv.refl H.out).below hb
    have h := hmb.rep
    obtain ⟨w1, hrun, hmv⟩ := Mv.named h HD.out HM.out s i.toNat HL.out HQ.out
    rw [HIP.out] at hrun
    have HI' : Hid (upd S d.toNat (some (bd, { nd with names := nd.names ++ [(s, i.toNat)] })) i.toNat = some (bn, nn)) := Lib.hid (by rw [upd_other _ _ hdi]; exact HI.out)
    have r1 : w'.cell? ⟨bd, 1, none⟩ = some (.int .i64 1) := by rw [h.c1 HD.out, HK.out]
    have r10 : w'.cell? ⟨bd, 10, none⟩ = some (.map (some m)) := by rw [h.c10 HD.out, HM.out]
    have e1 : w1.cell? ⟨bn, 1, none⟩ = some (.int .i64 1) := by rw [hmv.rep.c1 HI'.out, HN.out]
    have e5 : w1.cell? ⟨bn, 5, none⟩ = some (.int .i64 0) := by rw [hmv.rep.c5 HI'.out, HO.out]
    have e11 := hmv.rep.c11 HI'.out
    have g5 := hmv.rep.frozenN HI'.out 5
    have g11 := hmv.rep.frozenN HI'.out 11
    have HV := Lib.hid (hmb.trans hmv)
    have HR2 := Lib.hid hmv
    clear hmb h hmv hb c1 c10 d1 d5 hr hdi
    go_wp2
    go_ret
    have h2 := HV.out.trans (Mv.gainedDir HR2.out.rep HI'.out HN.out d.toNat)
    rw [HO.out, HDP.out] at h2
    exact .inr ⟨HR.out, rfl, h2⟩
theorem kp_gained (n : Nd) (d : Nat) : kp (n.gained d) = { kp n with links := (kp n).links + 1, parent := if (kp n).kind = 1 then d else (kp n).parent } := rfl
open Classical in
theorem enter_any {w : World} {t : Nat} {S : Tab} {T : IT.Tr} (h : Tre w t S T) (d i : Int) (s : ByteArray) :
    Calls Try.prog 22 #[.pointer (some ⟨t, 0, none⟩), .int .i64 d, .string s, .int .i64 i] w fun e w' => ∃ r, e = .returned (.int .i64 r) ∧ Stp w t S (fun T' => IT.isEnter okN T d.toNat (bs s) i.toNat r T') w' := by
  have hstay : ∀ {r : Int} {e : Ending} {w' : World}, IT.isEnter okN T d.toNat (bs s) i.toNat r T → e = .returned (.int .i64 r) ∧ w = w' → ∃ r, e = .returned (.int .i64 r) ∧ Stp w t S (fun T' => IT.isEnter okN T d.toNat (bs s) i.toNat r T') w' := by
    rintro r e w' hr ⟨rfl, rfl⟩
    exact ⟨r, rfl, Stp.keep h hr⟩
  cases hd : S d.toNat with
  | none =>
    refine (enter_no h.rep d i s (.inl hd)).mono fun e w' => hstay ?_
    unfold IT.isEnter; rw [(h.none_iff _).1 hd]; exact ⟨rfl, rfl⟩
  | some p1 =>
    obtain ⟨bd, nd⟩ := p1
    obtain ⟨n, hT, hkp⟩ := h.get hd
    cases hi : S i.toNat with
    | none =>
      refine (enter_no h.rep d i s (.inr hi)).mono fun e w' => hstay ?_
      unfold IT.isEnter; rw [hT, (h.none_iff _).1 hi]; exact ⟨rfl, rfl⟩
    | some p2 =>
      obtain ⟨bn, nn⟩ := p2
      obtain ⟨m, hX, hkx⟩ := h.get hi
      have hkd : nd.kind = n.kind := hkp.kind
      have hkn : nn.kind = m.kind := hkx.kind
      have hlk : nn.links = (IT.lnk T i.toNat : Int) := hkx.links
      have hlen : nd.names.length = n.names.length := by
        have e8 : (ents nd.names).Perm n.names := hkp.names
        rw [← e8.length_eq]; simp [ents]
      have hri := h.rep.rng _ _ hi
      have hrd := h.rep.rng _ _ hd
      have hi1 : i.toNat = 1 ↔ i = 1 := by omega
      unfold IT.isEnter
      rw [hT, hX]
      dsimp only
      by_cases h1 : n.kind = 1
      · by_cases h2 : nameB s = true
        · have hok : okN (bs s) = true := by rw [← nameB_ok]; exact h2
          have hlo := h.look hd hT s
          cases hl : look nd.names s with
          | some x =>
            obtain ⟨mx, hmx⟩ := h.snd.1.lead _ n (bs s, x) hT (IT.find_mem (hlo ▸ hl))
            obtain ⟨bx, nx, hSx, _⟩ := h.back hmx
            refine (enter_is h.rep d i hd hi s (hkd.trans h1) h2 hl hSx).mono ?_
            rintro e w' ⟨rfl, rfl⟩
            refine ⟨5, rfl, Stp.keep h ?_⟩
            rw [if_neg (fun hh => hh h1), if_neg (by rw [hok]; intro e; cases e), if_pos (by rw [← hlo, hl]; intro e; cases e)]
            exact ⟨rfl, rfl⟩
          | none =>
            have hfn : IT.findN (bs s) n.names = none := by rw [← hlo]; exact hl
            have hpre : ∀ {r : Int} {T' : IT.Tr}, (if i.toNat = 1 ∨ (m.kind = 1 ∧ IT.lnk T i.toNat > 0) ∨ IT.lnk T i.toNat ≥ 8 then r = 12 ∧ T' = T
                else if n.names.length ≥ 40 then r = 9 ∧ T' = T else if m.kind = 1 ∧ IT.Bel T i.toNat d.toNat then r = 8 ∧ T' = T else r = 0 ∧ T' = IT.entT T d.toNat i.toNat (bs s) n m) →
                (if ¬n.kind = 1 then r = 6 ∧ T' = T else if okN (bs s) = false then r = 1 ∧ T' = T else if IT.findN (bs s) n.names ≠ none then r = 5 ∧ T' = T
                else if i.toNat = 1 ∨ (m.kind = 1 ∧ IT.lnk T i.toNat > 0) ∨ IT.lnk T i.toNat ≥ 8 then r = 12 ∧ T' = T
                else if n.names.length ≥ 40 then r = 9 ∧ T' = T else if m.kind = 1 ∧ IT.Bel T i.toNat d.toNat then r = 8 ∧ T' = T else r = 0 ∧ T' = IT.entT T d.toNat i.toNat (bs s) n m) := by
              intro r T' hh
              rw [if_neg (fun hh => hh h1), if_neg (by rw [hok]; intro e; cases e), if_neg (fun hh => hh hfn)]
              exact hh
            have hkd1 := hkd.trans h1
            by_cases h3 : i = 1
            · refine (enter_root h.rep d i hd hi s hkd1 h2 hl h3).mono ?_
              rintro e w' ⟨rfl, rfl⟩
              refine ⟨12, rfl, Stp.keep h (hpre ?_)⟩
              rw [if_pos (.inl (hi1.2 h3))]; exact ⟨rfl, rfl⟩
            · by_cases h4 : m.kind = 1
              · by_cases h5 : IT.lnk T i.toNat > 0
                · refine (enter_manyd h.rep d i hd hi s hkd1 h2 hl h3 (hkn.trans h4) (by omega)).mono ?_
                  rintro e w' ⟨rfl, rfl⟩
                  refine ⟨12, rfl, Stp.keep h (hpre ?_)⟩
                  rw [if_pos (.inr (.inl ⟨h4, h5⟩))]; exact ⟨rfl, rfl⟩
                · have n5 : ¬ (i.toNat = 1 ∨ (m.kind = 1 ∧ IT.lnk T i.toNat > 0) ∨ IT.lnk T i.toNat ≥ 8) := by
                    rintro (a | a | a)
                    · exact h3 (hi1.1 a)
                    · exact h5 a.2
                    · omega
                  by_cases h6 : n.names.length ≥ 40
                  · refine (enter_fulld h.rep d i hd hi s hkd1 h2 hl h3 (hkn.trans h4) (by omega) (by omega)).mono ?_
                    rintro e w' ⟨rfl, rfl⟩
                    refine ⟨9, rfl, Stp.keep h (hpre ?_)⟩
                    rw [if_neg n5, if_pos h6]; exact ⟨rfl, rfl⟩
                  · refine (enter_dir h d i hd hT hi hkd1 (hkn.trans h4) s h2 hl h3 (by omega) (by omega)).mono ?_
                    rintro e w' (⟨hbel, rfl, hb⟩ | ⟨hbel, rfl, hmv⟩)
                    · refine ⟨8, rfl, Stp.keepB h hb (hpre ?_)⟩
                      rw [if_neg n5, if_neg h6, if_pos ⟨h4, hbel⟩]; exact ⟨rfl, rfl⟩
                    · have hne : i.toNat ≠ d.toNat := fun e => hbel (e ▸ .self)
                      refine ⟨0, rfl, _, IT.entT T d.toNat i.toNat (bs s) n m, hmv, ?_, hpre ?_⟩
                      · unfold entered
                        rw [kpOf_upd, kpOf_upd, kp_gained, IT.updK_comm _ (Ne.symm hne)]
                        exact h.ties.ent hT hX hne hrd.2 hri.2 (kpOf_some hd) (kpOf_some hi) (ents (nd.names ++ [(s, i.toNat)])) (by
                          show (ents (nd.names ++ [(s, i.toNat)])).Perm ((bs s, i.toNat) :: ents nd.names)
                          unfold ents
                          rw [List.map_append]
                          exact List.perm_append_comm)
                      · rw [if_neg n5, if_neg h6, if_neg (fun hh => hbel hh.2)]; exact ⟨rfl, rfl⟩
              · by_cases h5 : IT.lnk T i.toNat ≥ 8
                · refine (enter_manyf h.rep d i hd hi s hkd1 h2 hl h3 (by rw [hkn]; exact h4) (by omega)).mono ?_
                  rintro e w' ⟨rfl, rfl⟩
                  refine ⟨12, rfl, Stp.keep h (hpre ?_)⟩
                  rw [if_pos (.inr (.inr h5))]; exact ⟨rfl, rfl⟩
                · have n5 : ¬ (i.toNat = 1 ∨ (m.kind = 1 ∧ IT.lnk T i.toNat > 0) ∨ IT.lnk T i.toNat ≥ 8) := by
                    rintro (a | a | a)
                    · exact h3 (hi1.1 a)
                    · exact h4 a.1
                    · exact h5 a
                  by_cases h6 : n.names.length ≥ 40
                  · refine (enter_fullf h.rep d i hd hi s hkd1 h2 hl h3 (by rw [hkn]; exact h4) (by omega) (by omega)).mono ?_
                    rintro e w' ⟨rfl, rfl⟩
                    refine ⟨9, rfl, Stp.keep h (hpre ?_)⟩
                    rw [if_neg n5, if_pos h6]; exact ⟨rfl, rfl⟩
                  · refine (enter_file h.rep d i hd hi hkd1 (by rw [hkn]; exact h4) s h2 hl h3 ⟨by omega, by omega⟩ (by omega)).mono ?_
                    rintro e w' ⟨rfl, hmv⟩
                    have hne : i.toNat ≠ d.toNat := fun e => by
                      rw [e, hT] at hX; obtain rfl := Option.some.inj hX
                      exact h4 h1
                    refine ⟨0, rfl, _, IT.entT T d.toNat i.toNat (bs s) n m, hmv, ?_, hpre ?_⟩
                    · unfold entered
                      rw [kpOf_upd, kpOf_upd, kp_gained, IT.updK_comm _ (Ne.symm hne)]
                      exact h.ties.ent hT hX hne hrd.2 hri.2 (kpOf_some hd) (kpOf_some hi) (ents (nd.names ++ [(s, i.toNat)])) (by
                        show (ents (nd.names ++ [(s, i.toNat)])).Perm ((bs s, i.toNat) :: ents nd.names)
                        unfold ents
                        rw [List.map_append]
                        exact List.perm_append_comm)
                    · rw [if_neg n5, if_neg h6, if_neg (fun hh => h4 hh.1)]; exact ⟨rfl, rfl⟩
        · have h2 : nameB s = false := by simpa using h2
          refine (enter_noname h.rep d i hd hi s (hkd.trans h1) h2).mono ?_
          rintro e w' ⟨rfl, rfl⟩
          refine ⟨1, rfl, Stp.keep h ?_⟩
          rw [if_neg (fun hh => hh h1), if_pos (by rw [← nameB_ok]; exact h2)]; exact ⟨rfl, rfl⟩
      · refine (enter_nodir h.rep d i hd hi s (by rw [hkd]; exact h1)).mono ?_
        rintro e w' ⟨rfl, rfl⟩
        refine ⟨6, rfl, Stp.keep h ?_⟩
        rw [if_pos h1]; exact ⟨rfl, rfl⟩
end Go.Proofs.Ytafonmnfeibaiaa
namespace Go.Proofs.Ytafonmnfeibaiaa
open Go.RowKit

/-! ### A map's writes, at whatever world in which it lies as it lies -/
section
variable {P : Program} {T K : TypeId} {E : TypeId} {es : Array MapEntry} {c : Nat} {l : List (ByteArray × Nat)}
theorem delete_all (hT : P.underlying T = some (.map K E)) (hK : P.underlying K = some .string) (h2 : MapOk es c l) (s : ByteArray) (x : Nat) (hs : look l s = some x) (m : Nat) :
    ∃ es', MapOk es' c (delL l s) ∧ ∀ (w : World) (ty : TypeId), w.heap[m]? = some (.map es c) → (Builtin.delete_ #[T, K] ty #[.map (some m), .string s]).run P w = .ok (.tuple #[]) (w.putObj m (.map es' c)) := by
  obtain ⟨j, hf, hj, hd, _⟩ := findNow_some_of s x es.toList l 0 h2.vals hs
  have hes : (es.eraseIdxIfInBounds j).toList = es.toList.eraseIdx j := by
    have : j < es.size := by simpa using hj
    simp [Array.eraseIdxIfInBounds, this]
  refine ⟨es.eraseIdxIfInBounds j, ⟨?_, ?_, ?_, ?_⟩, fun w ty h1 => ?_⟩
  · rw [hes, ← hd]
    have := h2.vals
    simp only [entVals] at this ⊢
    rw [map_eraseIdx', map_eraseIdx', this]
  · rw [← hd]
    exact List.Nodup.sublist ((List.eraseIdx_sublist l j).map _) h2.keys
  · intro e he
    rw [hes] at he
    exact h2.born e ((List.eraseIdx_sublist _ j).subset he)
  · rw [hes]
    exact List.Nodup.sublist ((List.eraseIdx_sublist _ j).map _) h2.apart
  · simp [Builtin.delete_, run_underlying hT, MapKept.run_getObj_map h1, check_string hK, Instr.findKey, run_underlying hK, hf, Result.andThen, MapKept.run_setObj_map _ h1, World.putObj]
/-- A name is let lead to x: it stands once. -/
theorem update_all (hT : P.underlying T = some (.map K E)) (hK : P.underlying K = some .string) (h2 : MapOk es c l) (s : ByteArray) (x : Nat) (m : Nat) :
    ∃ es' c' l', MapOk es' c' l' ∧ l'.Perm ((s, x) :: delL l s) ∧ ∀ (w : World), w.heap[m]? = some (.map es c) → (Instr.mapUpdate T (.map (some m)) (.string s) (.int .i64 (x : Int))).run P w = .ok () (w.putObj m (.map es' c')) := by
  cases hs : look l s with
  | none =>
    have hf := findNow_nil_of s es.toList l 0 h2.vals hs
    have hdl : delL l s = l := by
      simp only [look, Option.map_eq_none_iff, List.find?_eq_none] at hs
      exact List.eraseP_of_forall_not (fun p hp => by simpa using hs p hp)
    refine ⟨es.push ⟨.string s, .int .i64 (x : Int), c⟩, c + 1, l ++ [(s, x)], ⟨?_, ?_, ?_, ?_⟩, by rw [hdl]; exact List.perm_append_comm, fun w h1 => ?_⟩
    · simp [entVals, h2.vals]
    · rw [List.map_append, List.nodup_append]
      refine ⟨h2.keys, by simp, ?_⟩
      intro a ha b hb
      simp at hb
      subst hb
      intro e
      obtain ⟨p, hp, hp2⟩ := List.mem_map.1 ha
      simp only [look, Option.map_eq_none_iff, List.find?_eq_none] at hs
      exact hs p hp (by rw [hp2, e]; simp)
    · intro e he
      simp at he
      rcases he with he | rfl
      · have := h2.born e (by simpa using he); omega
      · simp
    · simp only [Array.toList_push, List.map_append, List.map_cons, List.map_nil]
      rw [List.nodup_append]
      refine ⟨h2.apart, by simp, ?_⟩
      intro a ha b hb
      simp at hb
      obtain ⟨p, hp, hp2⟩ := List.mem_map.1 ha
      have := h2.born p hp
      omega
    · simp [Instr.mapUpdate, run_underlying hT, MapKept.run_getObj_map h1, check_string hK, Instr.findKey, run_underlying hK, hf, Result.andThen, MapKept.run_setObj_map _ h1, World.putObj]
  | some y =>
    obtain ⟨j, hf, hj, hd, hkj⟩ := findNow_some_of s y es.toList l 0 h2.vals hs
    have hjs : j < es.size := by simpa using hj
    have hlen : l.length = es.size := by have := congrArg List.length h2.vals; simpa [entVals] using this.symm
    have hjl : j < l.length := by omega
    have hkey : es[j].key = .string s := by
      have e1 := congrArg (fun L => L[j]?) h2.vals
      simp only [entVals, List.getElem?_map] at e1
      have e2 : l[j]? = some l[j] := List.getElem?_eq_getElem hjl
      have e3 : es.toList[j]? = some es[j] := by rw [List.getElem?_eq_getElem hj]; rfl
      rw [e2, e3] at e1
      rw [e2] at hkj
      simp only [Option.map_some, Option.some.injEq, Prod.mk.injEq] at e1 hkj
      rw [e1.1, hkj]
    have hst : ∀ w, (Instr.keyThatStays (((es[j]?).map (·.key)).getD (.string s)) (.string s)).run P w = .ok (.string s) w := fun w => by
      rw [Array.getElem?_eq_getElem hjs]
      simp only [Option.map_some, Option.getD_some, hkey]
      simp [Instr.keyThatStays, Instr.sameBits, ba_beq]
    refine ⟨es.modify j fun e => { e with key := .string s, val := .int .i64 (x : Int) }, c, l.set j (s, x), ⟨?_, ?_, ?_, ?_⟩, ?_, fun w h1 => ?_⟩
    · apply List.ext_getElem?
      intro i
      have e1 := congrArg (fun L => L[i]?) h2.vals
      simp only [entVals, List.getElem?_map, Array.toList_modify, List.getElem?_modify, List.getElem?_set] at e1 ⊢
      by_cases hi : j = i
      · subst hi
        have e3 : es.toList[j]? = some es[j] := by rw [List.getElem?_eq_getElem hj]; rfl
        simp [e3, hjl]
      · simp only [hi, if_false]
        rw [← e1]
        cases es.toList[i]? <;> simp
    · have : (l.set j (s, x)).map (·.1) = l.map (·.1) := by
        apply List.ext_getElem?
        intro i
        simp only [List.getElem?_map, List.getElem?_set]
        by_cases hi : j = i
        · subst hi
          simp only [if_pos, hjl]
          exact hkj.symm
        · simp [hi]
      rw [this]; exact h2.keys
    · intro e he
      rw [Array.toList_modify] at he
      obtain ⟨i, hi, rfl⟩ := List.getElem_of_mem he
      rw [List.getElem_modify]
      have hi2 : i < es.toList.length := by simpa using hi
      by_cases e : j = i
      · rw [if_pos e]; exact (show es.toList[i].born < c from h2.born _ (List.getElem_mem hi2))
      · rw [if_neg e]; exact h2.born _ (List.getElem_mem hi2)
    · have : (es.modify j fun e => { e with key := .string s, val := .int .i64 (x : Int) }).toList.map (·.born) = es.toList.map (·.born) := by
        apply List.ext_getElem?
        intro i
        simp only [List.getElem?_map, Array.toList_modify, List.getElem?_modify]
        by_cases hi : j = i
        · subst hi; cases es.toList[j]? <;> simp
        · simp [hi]
      rw [this]; exact h2.apart
    · rw [← hd]; exact set_perm _ l j hjl
    · simp [Instr.mapUpdate, run_underlying hT, MapKept.run_getObj_map h1, check_string hK, Instr.findKey, run_underlying hK, hf, Result.andThen, hst, MapKept.run_setObj_map _ h1, World.putObj]
end

/-! ### Remove -/
theorem rm_dir {w : World} {t bd : Nat} {S : Tab} {nd : Nd} (h : Rep w t S) (d : Int) (hd : S d.toNat = some (bd, nd)) (s : ByteArray) (hkd : ¬ nd.kind = 1) :
    Calls Try.prog 47 #[.pointer (some ⟨t, 0, none⟩), .int .i64 d, .string s] w fun e w' => e = .returned (.int .i64 6) ∧ w = w' := by
  have c1 := h.c1 hd
  have hkb : (nd.kind != 1) = true := by simpa using hkd
  have H := Lib.hid h
  have HD := Lib.hid hd
  clear h hd hkd
  go_enter Try.func47, Try.ntmps47
  go_wp2_with fail
  refine (H.out.at_some _ HD.out).mono ?_
  rintro e w' ⟨rfl, rfl⟩
  go_wp2
  go_ret
  exact ⟨rfl, rfl⟩
theorem rm_none {w : World} {t : Nat} {S : Tab} (h : Rep w t S) (d : Int) (hd : S d.toNat = none) (s : ByteArray) :
    Calls Try.prog 47 #[.pointer (some ⟨t, 0, none⟩), .int .i64 d, .string s] w fun e w' => e = .returned (.int .i64 3) ∧ w = w' := by
  have H := Lib.hid h
  have HD := Lib.hid hd
  clear h hd
  go_enter Try.func47, Try.ntmps47
  go_wp2_with fail
  refine (H.out.at_none _ HD.out).mono ?_
  rintro e w' ⟨rfl, rfl⟩
  go_wp2
  go_ret
  exact ⟨rfl, rfl⟩
theorem rm_noent {w : World} {t bd : Nat} {S : Tab} {nd : Nd} (h : Rep w t S) (d : Int) (hd : S d.toNat = some (bd, nd)) (s : ByteArray) (hkd : nd.kind = 1) (hl : look nd.names s = none) :
    Calls Try.prog 47 #[.pointer (some ⟨t, 0, none⟩), .int .i64 d, .string s] w fun e w' => e = .returned (.int .i64 3) ∧ w = w' := by
  have c1 : w.cell? ⟨bd, 1, none⟩ = some (.int .i64 1) := by rw [h.c1 hd, hkd]
  have H := Lib.hid h
  have HD := Lib.hid hd
  have HK := Lib.hid hkd
  have HL := Lib.hid hl
  clear h hd hkd hl
  go_enter Try.func47, Try.ntmps47
  go_wp2_with fail
  refine (H.out.at_some _ HD.out).mono ?_
  rintro e w' ⟨rfl, rfl⟩
  go_wp2_with fail
  refine (entry_none H.out HD.out HK.out _ HL.out).mono ?_
  rintro e w' ⟨rfl, rfl⟩
  go_wp2
  go_ret
  exact ⟨rfl, rfl⟩
theorem rm_busy {w : World} {t bd bx : Nat} {S : Tab} {nd nx : Nd} (h : Rep w t S) (d : Int) (hd : S d.toNat = some (bd, nd)) (s : ByteArray) (hkd : nd.kind = 1) {x : Nat} (hl : look nd.names s = some x) (hx : S x = some (bx, nx)) (hn : 0 < nx.names.length) :
    Calls Try.prog 47 #[.pointer (some ⟨t, 0, none⟩), .int .i64 d, .string s] w fun e w' => e = .returned (.int .i64 8) ∧ w = w' := by
  have c1 : w.cell? ⟨bd, 1, none⟩ = some (.int .i64 1) := by rw [h.c1 hd, hkd]
  have d10 := h.c10 hx
  have hlen : ∀ ty, (Builtin.len_ #[84] ty #[.map nx.mp]).run Try.prog w = .ok (.int .i64 nx.names.length) w := fun ty => h.len hx ty
  have hn1 : 0 < (nx.names.length : Int) := by omega
  have H := Lib.hid h
  have HD := Lib.hid hd
  have HK := Lib.hid hkd
  have HL := Lib.hid hl
  have HX := Lib.hid hx
  clear h hd hkd hl hx hn
  go_enter Try.func47, Try.ntmps47
  go_wp2_with fail
  refine (H.out.at_some _ HD.out).mono ?_
  rintro e w' ⟨rfl, rfl⟩
  go_wp2_with fail
  refine (entry_some H.out HD.out HK.out _ _ HL.out HX.out).mono ?_
  rintro e w' ⟨rfl, rfl⟩
  go_wp2
  go_ret
  exact ⟨rfl, rfl⟩
set_option maxRecDepth 100000 in
theorem rm_ok {w : World} {t bd bx : Nat} {S : Tab} {nd nx : Nd} (h : Rep w t S) (d : Int) (hd : S d.toNat = some (bd, nd)) (s : ByteArray) (hkd : nd.kind = 1) {x : Nat} (hl : look nd.names s = some x) (hx : S x = some (bx, nx)) (hn : nx.names = []) {Q : World → Prop}
    (hlo : ∀ w1, Mv w t S w1 (upd S d.toNat (some (bd, { nd with names := delL nd.names s }))) → Calls Try.prog 53 #[.pointer (some ⟨t, 0, none⟩), .pointer (some ⟨bx, 0, none⟩)] w1 fun e w' => e = .returned (.tuple #[]) ∧ Q w') :
    Calls Try.prog 47 #[.pointer (some ⟨t, 0, none⟩), .int .i64 d, .string s] w fun e w' => e = .returned (.int .i64 0) ∧ Q w' := by
  have c1 : w.cell? ⟨bd, 1, none⟩ = some (.int .i64 1) := by rw [h.c1 hd, hkd]
  obtain ⟨m, hm⟩ := h.dir_mp hd hkd
  have c10 : w.cell? ⟨bd, 10, none⟩ = some (.map (some m)) := by rw [h.c10 hd, hm]
  have d10 := h.c10 hx
  have hlen : ∀ ty, (Builtin.len_ #[84] ty #[.map nx.mp]).run Try.prog w = .ok (.int .i64 0) w := fun ty => by have := h.len hx ty; rw [hn] at this; exact this
  obtain ⟨es, c, hm1, hmo⟩ := h.map _ bd nd m hd hm
  obtain ⟨es', hmo', hrun⟩ := delete_all Try.underlying84 Try.underlying9 hmo s x hl m
  have hrun1 := fun ty => hrun w ty hm1
  have hsz := (h.small _ bd nd hd).2
  have hmv : Mv w t S (w.putObj m (.map es' c)) (upd S d.toNat (some (bd, { nd with names := delL nd.names s }))) := (Mv.refl h).setMap hd hm es' c _ hmo' (by
    have h2 : (delL nd.names s).length ≤ nd.names.length := List.length_eraseP_le
    omega)
  have HLO := Lib.hid (hlo _ hmv)
  have H := Lib.hid h
  have HD := Lib.hid hd
  have HK := Lib.hid hkd
  have HL := Lib.hid hl
  have HX := Lib.hid hx
  clear h hd hkd hl hx hn hlo hm hm1 hmo hmo' hrun hsz hmv
  go_enter Try.func47, Try.ntmps47
  go_wp2_with fail
  refine (H.out.at_some _ HD.out).mono ?_
  rintro e w' ⟨rfl, rfl⟩
  go_wp2_with fail
  refine (entry_some H.out HD.out HK.out _ _ HL.out HX.out).mono ?_
  rintro e w' ⟨rfl, rfl⟩
  go_wp2_with fail
  refine HLO.out.mono ?_
  rintro e w' ⟨rfl, hq⟩
  have HQ := Lib.hid hq
  clear hq
  go_wp2
  go_ret
  exact ⟨rfl, HQ.out⟩
theorem names_nil {n : Nd} {m : IT.Nd} (h : (ents n.names).Perm m.names) : n.names.length = m.names.length := by rw [← h.length_eq]; simp [ents]
theorem remove_any {w : World} {t : Nat} {S : Tab} {T : IT.Tr} (h : Tre w t S T) (d : Int) (s : ByteArray) :
    Calls Try.prog 47 #[.pointer (some ⟨t, 0, none⟩), .int .i64 d, .string s] w fun e w' => ∃ r, e = .returned (.int .i64 r) ∧ Stp w t S (fun T' => IT.isRemove T d.toNat (bs s) r T') w' := by
  have hstay : ∀ {r : Int} {e : Ending} {w' : World}, IT.isRemove T d.toNat (bs s) r T → e = .returned (.int .i64 r) ∧ w = w' → ∃ r, e = .returned (.int .i64 r) ∧ Stp w t S (fun T' => IT.isRemove T d.toNat (bs s) r T') w' := by
    rintro r e w' hr ⟨rfl, rfl⟩
    exact ⟨r, rfl, Stp.keep h hr⟩
  cases hd : S d.toNat with
  | none =>
    refine (rm_none h.rep d hd s).mono fun e w' => hstay ?_
    unfold IT.isRemove; rw [(h.none_iff _).1 hd]; exact ⟨rfl, rfl⟩
  | some p1 =>
    obtain ⟨bd, nd⟩ := p1
    obtain ⟨n, hT, hkp⟩ := h.get hd
    have hkd : nd.kind = n.kind := hkp.kind
    by_cases h1 : n.kind = 1
    · have hlo := h.look hd hT s
      cases hl : look nd.names s with
      | none =>
        refine (rm_noent h.rep d hd s (hkd.trans h1) hl).mono fun e w' => hstay ?_
        unfold IT.isRemove; rw [hT]; dsimp only; rw [if_neg (fun hh => hh h1), ← hlo, hl]; exact ⟨rfl, rfl⟩
      | some x =>
        have hfn : IT.findN (bs s) n.names = some x := by rw [← hlo]; exact hl
        obtain ⟨mx, hmx⟩ := h.snd.1.lead _ n (bs s, x) hT (IT.find_mem hfn)
        obtain ⟨bx, nx, hSx, hkx⟩ := h.back hmx
        have hlen := names_nil hkx.names
        by_cases hn : mx.names = []
        · have hnx : nx.names = [] := List.eq_nil_of_length_eq_zero (by rw [hlen, hn]; rfl)
          have hrd := (h.snd.1.rng _ n hT).2
          have hrx := (h.snd.1.rng _ mx hmx).2
          have hne := h.snd.1.apart hT hmx hfn
          have s1 := h.snd.1.del hT hmx hfn
          refine (rm_ok h.rep d hd s (hkd.trans h1) hl hSx hnx (Q := fun w' => Stp w t S (fun T' => IT.NF (IT.delT T d.toNat x (bs s) n mx) T') w') fun w1 hmv => ?_).mono ?_
          · refine loses_one hmv s1 ?_ (fun y => ?_) (fun j hj => ?_) (by rw [upd_other _ _ hne]; exact hSx)
            · rw [kpOf_upd]
              exact h.ties.del hT hmx hne hrd hrx (h.snd.1.ord _ n hT) hfn (kpOf_some hd) (ents (delL nd.names s)) (by
                rw [ents_del s (h.rep.nodup hd)]; exact List.Perm.refl _)
            · have h2 : IT.lnk (IT.delT T d.toNat x (bs s) n mx) y + (if x = y then 1 else 0) = IT.lnk T y := IT.del_lnk hT hmx hne hrd hrx (h.snd.1.ord _ n hT) hfn y
              have h3 := h.snd.1.many y
              unfold IT.single
              by_cases e : x = y
              · subst e; rw [if_pos rfl] at h2 ⊢; omega
              · rw [if_neg e] at h2; rw [if_neg (Ne.symm e)]; omega
            · rcases IT.del_can hT hmx hne hrd hrx (h.snd.1.ord _ n hT) hfn hj with e | e
              · exact e
              · exact absurd e (h.snd.2 j)
          · rintro e w' ⟨rfl, S', T', g1, g2, g3⟩
            refine ⟨0, rfl, S', T', g1, g2, ?_⟩
            unfold IT.isRemove; rw [hT]; dsimp only; rw [if_neg (fun hh => hh h1), hfn]
            exact ⟨mx, hmx, by rw [if_neg (fun hh => hh hn)]; exact ⟨rfl, g3⟩⟩
        · have hnx : 0 < nx.names.length := by
            rw [hlen]
            cases hmn : mx.names with
            | nil => exact absurd hmn hn
            | cons => simp
          refine (rm_busy h.rep d hd s (hkd.trans h1) hl hSx hnx).mono fun e w' => hstay ?_
          unfold IT.isRemove; rw [hT]; dsimp only; rw [if_neg (fun hh => hh h1), hfn]
          exact ⟨mx, hmx, by rw [if_pos hn]; exact ⟨rfl, rfl⟩⟩
    · refine (rm_dir h.rep d hd s (by rw [hkd]; exact h1)).mono fun e w' => hstay ?_
      unfold IT.isRemove; rw [hT]; dsimp only; rw [if_pos h1]; exact ⟨rfl, rfl⟩
end Go.Proofs.Ytafonmnfeibaiaa
namespace Go.Proofs.Ytafonmnfeibaiaa
open Go.RowKit

theorem Mv.drewN {w w1 : World} {t : Nat} {S S1 : Tab} (h : Mv w t S w1 S1) (n : Nat) : Mv w t S (w1.drewN n) S1 := h.below (belowDrewN (Below.refl _ _) n)
/-- The state of a tree in which an entry was moved to where there was none of that name, or another one. -/
def movedS (S : Tab) (d b x : Nat) (bd : Nat) (nd : Nd) (bb : Nat) (nb1 : Nd) (bx : Nat) (nx : Nd) (s : ByteArray) (l2 : List (ByteArray × Nat)) : Tab :=
  upd (upd (upd S d (some (bd, { nd with names := delL nd.names s }))) b (some (bb, { nb1 with names := l2 }))) x (some (bx, { nx with parent := if nx.kind = 1 then b else nx.parent }))
/-- What the writes of Move do, at whatever world w1 in which the tree lies. -/
structure MvW (w1 : World) (t : Nat) (S : Tab) (d b x : Nat) (bd bb bx : Nat) (nd nb1 nx : Nd) (s ar : ByteArray) (m m2 : Nat) (O1 O2 : Obj) (l2 : List (ByteArray × Nat)) : Prop where
  mpd : nd.mp = some m
  rdel : ∀ j ty, (Builtin.delete_ #[84, 9] ty #[.map (some m), .string s]).run Try.prog (w1.drewN j) = .ok (.tuple #[]) ((w1.drewN j).putObj m O1)
  rupd : ∀ j, (Instr.mapUpdate 84 (.map (some m2)) (.string ar) (.int .i64 (x : Int))).run Try.prog ((w1.drewN j).putObj m O1).drew = .ok () (((w1.drewN j).putObj m O1).drew.putObj m2 O2)
  c10 : ∀ j, ((w1.drewN j).putObj m O1).cell? ⟨bb, 10, none⟩ = some (.map (some m2))
  c0 : ∀ j, ((w1.drewN j).putObj m O1).cell? ⟨bx, 0, none⟩ = some (.int .i64 (x : Int))
  mv : ∀ j, Mv w1 t S (((w1.drewN j).putObj m O1).drew.putObj m2 O2) (Ytafonmnfeibaiaa.upd (Ytafonmnfeibaiaa.upd S d (some (bd, { nd with names := delL nd.names s }))) b (some (bb, { nb1 with names := l2 })))
  perm : l2.Perm ((ar, x) :: delL nb1.names ar)

theorem mvW_of {w1 : World} {t : Nat} {S : Tab} (h : Rep w1 t S) {d b x bd bb bx : Nat} {nd nb nx : Nd} (hd : S d = some (bd, nd)) (hb : S b = some (bb, nb)) (hx : S x = some (bx, nx)) (hdk : nd.kind = 1) (hbk : nb.kind = 1) (hxd : x ≠ d) (hxb : x ≠ b) (s ar : ByteArray) {y : Nat} (hl : look nd.names s = some y)
    {nb1 : Nd} (hnb1 : nb1 = if b = d then { nd with names := delL nd.names s } else nb) (h40 : (delL nb1.names ar).length < 40) :
    ∃ m m2 O1 O2 l2, MvW w1 t S d b x bd bb bx nd nb1 nx s ar m m2 O1 O2 l2 := by
  obtain ⟨m, hm⟩ := h.dir_mp hd hdk
  obtain ⟨m2, hm2⟩ := h.dir_mp hb hbk
  obtain ⟨es, c, hm1, hmo⟩ := h.map _ bd nd m hd hm
  obtain ⟨es', hmo', hrun⟩ := delete_all Try.underlying84 Try.underlying9 hmo s y hl m
  have hsz := (h.small _ bd nd hd).2
  have hlen : (delL nd.names s).length ≤ 40 := by
    have h2 : (delL nd.names s).length ≤ nd.names.length := List.length_eraseP_le
    omega
  have hmv1 : ∀ j, Mv w1 t S ((w1.drewN j).putObj m (.map es' c)) (upd S d (some (bd, { nd with names := delL nd.names s }))) := fun j => ((Mv.refl h).drewN j).setMap hd hm es' c _ hmo' hlen
  have hS1 : upd S d (some (bd, { nd with names := delL nd.names s })) b = some (bb, nb1) := by
    by_cases e : b = d
    · rw [if_pos e] at hnb1
      subst e
      rw [hd] at hb
      obtain ⟨rfl, rfl⟩ := Prod.mk.inj (Option.some.inj hb)
      rw [upd_same, hnb1]
    · rw [if_neg e] at hnb1
      rw [upd_other _ _ e, hb, hnb1]
  have hS1x : upd S d (some (bd, { nd with names := delL nd.names s })) x = some (bx, nx) := by rw [upd_other _ _ hxd]; exact hx
  have hmp1 : nb1.mp = some m2 := by
    by_cases e : b = d
    · rw [if_pos e] at hnb1
      subst e
      rw [hd] at hb
      obtain ⟨rfl, rfl⟩ := Prod.mk.inj (Option.some.inj hb)
      rw [hnb1]; exact hm2
    · rw [if_neg e] at hnb1
      rw [hnb1]; exact hm2
  obtain ⟨es1, c1, hq1, hqo⟩ := (hmv1 0).rep.map b bb nb1 m2 hS1 hmp1
  obtain ⟨es2, c2, l2, hqo2, hperm, hrun2⟩ := update_all Try.underlying84 Try.underlying9 hqo ar x m2
  have hl2 : l2.length ≤ 40 := by
    rw [hperm.length_eq]
    simp only [List.length_cons]
    omega
  refine ⟨m, m2, .map es' c, .map es2 c2, l2, ⟨hm, fun j ty => hrun _ ty hm1, fun j => hrun2 _ hq1, fun j => by rw [(hmv1 j).rep.cellN hS1 10]; show some (Value.map nb1.mp) = _; rw [hmp1], fun j => ?_, fun j => ?_, hperm⟩⟩
  · rw [(hmv1 j).rep.cellN hS1x 0]
    show some (Value.int .i64 nx.ino) = _
    rw [h.ino x bx nx hx]
  · exact (hmv1 j).drew.setMap hS1 hmp1 es2 c2 l2 hqo2 hl2
end Go.Proofs.Ytafonmnfeibaiaa
namespace Go.Proofs.Ytafonmnfeibaiaa
open Go.RowKit

theorem MvW.fin {w1 : World} {t : Nat} {S : Tab} {d b x bd bb bx : Nat} {nd nb1 nx : Nd} {s ar : ByteArray} {m m2 : Nat} {O1 O2 : Obj} {l2} (h : MvW w1 t S d b x bd bb bx nd nb1 nx s ar m m2 O1 O2 l2) (hx : S x = some (bx, nx)) (hxd : x ≠ d) (hxb : x ≠ b) (j : Nat) :
    (nx.kind = 1 → Mv w1 t S ((((w1.drewN j).putObj m O1).drew.putObj m2 O2).setCell ⟨bx, 11, none⟩ (.int .i64 (b : Int))) (movedS S d b x bd nd bb nb1 bx nx s l2)) ∧
    (nx.kind ≠ 1 → Mv w1 t S (((w1.drewN j).putObj m O1).drew.putObj m2 O2) (movedS S d b x bd nd bb nb1 bx nx s l2)) := by
  have hS : upd (upd S d (some (bd, { nd with names := delL nd.names s }))) b (some (bb, { nb1 with names := l2 })) x = some (bx, nx) := by
    rw [upd_other _ _ hxb, upd_other _ _ hxd]; exact hx
  have hmv := h.mv j
  have hsm := (hmv.rep.small x bx nx hS).1
  refine ⟨fun hk => ?_, fun hk => ?_⟩
  · exact hmv.setNode hS 11 (.int .i64 (b : Int)) { nx with parent := if nx.kind = 1 then b else nx.parent } (by simp [Nd.cells, hk]) rfl rfl rfl rfl hsm
  · have e : movedS S d b x bd nd bb nb1 bx nx s l2 = upd (upd S d (some (bd, { nd with names := delL nd.names s }))) b (some (bb, { nb1 with names := l2 })) := by
      unfold movedS
      have e2 : ({ nx with parent := if nx.kind = 1 then b else nx.parent } : Nd) = nx := by rw [if_neg hk]
      rw [e2]; exact upd_self _ _ hS
    rw [e]; exact hmv
theorem MvW.at_x {w1 : World} {t : Nat} {S : Tab} {d b x bd bb bx : Nat} {nd nb1 nx : Nd} {s ar : ByteArray} {m m2 : Nat} {O1 O2 : Obj} {l2} (h : MvW w1 t S d b x bd bb bx nd nb1 nx s ar m m2 O1 O2 l2) (hx : S x = some (bx, nx)) (hxd : x ≠ d) (hxb : x ≠ b) (i j : Nat) :
    (((w1.drewN j).putObj m O1).drew.putObj m2 O2).cell? ⟨bx, i, none⟩ = nx.cells[i]? ∧ (((w1.drewN j).putObj m O1).drew.putObj m2 O2).frozen? ⟨bx, i, none⟩ = false := by
  have hS : upd (upd S d (some (bd, { nd with names := delL nd.names s }))) b (some (bb, { nb1 with names := l2 })) x = some (bx, nx) := by
    rw [upd_other _ _ hxb, upd_other _ _ hxd]; exact hx
  exact ⟨(h.mv j).rep.cellN hS i, (h.mv j).rep.frozenN hS i⟩
set_option maxHeartbeats 400000 in
theorem mv_no {w : World} {t : Nat} {S : Tab} (h : Rep w t S) (d b : Int) (s ar : ByteArray) (hn : S d.toNat = none ∨ S b.toNat = none) :
    Calls Try.prog 24 #[.pointer (some ⟨t, 0, none⟩), .int .i64 d, .string s, .int .i64 b, .string ar] w fun e w' => e = .returned (.int .i64 3) ∧ w = w' := by
  have H := Lib.hid h
  have HN := Lib.hid hn
  clear h hn
  go_enter Try.func24, Try.ntmps24
  go_wp2_with fail
  refine (pair_none H.out _ _ HN.out).mono ?_
  rintro e w' ⟨rfl, rfl⟩
  go_wp2
  go_ret
  exact ⟨rfl, rfl⟩
set_option maxRecDepth 100000 in
set_option maxHeartbeats 400000 in
theorem mv_kind1 {w : World} {t bd bb : Nat} {S : Tab} {nd nb : Nd} (h : Rep w t S) (d b : Int) (hd : S d.toNat = some (bd, nd)) (hb : S b.toNat = some (bb, nb)) (s ar : ByteArray) (hkd : ¬ nd.kind = 1) :
    Calls Try.prog 24 #[.pointer (some ⟨t, 0, none⟩), .int .i64 d, .string s, .int .i64 b, .string ar] w fun e w' => e = .returned (.int .i64 6) ∧ w = w' := by
  have c1 := h.c1 hd
  have hkb : (nd.kind != 1) = true := by simpa using hkd
  have H := Lib.hid h
  have HD := Lib.hid hd
  have HB := Lib.hid hb
  clear h hd hb hkd
  go_enter Try.func24, Try.ntmps24
  go_wp2_with fail
  refine (pair_ok H.out _ _ HD.out HB.out).mono ?_
  rintro e w' ⟨rfl, rfl⟩
  go_wp2
  go_ret
  exact ⟨rfl, rfl⟩
set_option maxRecDepth 100000 in
set_option maxHeartbeats 400000 in
theorem mv_kind2 {w : World} {t bd bb : Nat} {S : Tab} {nd nb : Nd} (h : Rep w t S) (d b : Int) (hd : S d.toNat = some (bd, nd)) (hb : S b.toNat = some (bb, nb)) (s ar : ByteArray) (hkd : nd.kind = 1) (hkb : ¬ nb.kind = 1) :
    Calls Try.prog 24 #[.pointer (some ⟨t, 0, none⟩), .int .i64 d, .string s, .int .i64 b, .string ar] w fun e w' => e = .returned (.int .i64 6) ∧ w = w' := by
  have c1 : w.cell? ⟨bd, 1, none⟩ = some (.int .i64 1) := by rw [h.c1 hd, hkd]
  have e1 := h.c1 hb
  have hkbb : (nb.kind != 1) = true := by simpa using hkb
  have H := Lib.hid h
  have HD := Lib.hid hd
  have HB := Lib.hid hb
  clear h hd hb hkd hkb
  go_enter Try.func24, Try.ntmps24
  go_wp2_with fail
  refine (pair_ok H.out _ _ HD.out HB.out).mono ?_
  rintro e w' ⟨rfl, rfl⟩
  go_wp2
  go_ret
  exact ⟨rfl, rfl⟩
set_option maxRecDepth 100000 in
set_option maxHeartbeats 400000 in
theorem mv_noent {w : World} {t bd bb : Nat} {S : Tab} {nd nb : Nd} (h : Rep w t S) (d b : Int) (hd : S d.toNat = some (bd, nd)) (hb : S b.toNat = some (bb, nb)) (s ar : ByteArray) (hkd : nd.kind = 1) (hkb : nb.kind = 1) (hl : look nd.names s = none) :
    Calls Try.prog 24 #[.pointer (some ⟨t, 0, none⟩), .int .i64 d, .string s, .int .i64 b, .string ar] w fun e w' => e = .returned (.int .i64 3) ∧ w = w' := by
  have c1 : w.cell? ⟨bd, 1, none⟩ = some (.int .i64 1) := by rw [h.c1 hd, hkd]
  have e1 : w.cell? ⟨bb, 1, none⟩ = some (.int .i64 1) := by rw [h.c1 hb, hkb]
  have HK := Lib.hid hkd
  have HKB := Lib.hid hkb
  have HL := Lib.hid hl
  have H := Lib.hid h
  have HD := Lib.hid hd
  have HB := Lib.hid hb
  clear h hd hb hkd hkb hl
  go_enter Try.func24, Try.ntmps24
  go_wp2_with fail
  refine (pair_ok H.out _ _ HD.out HB.out).mono ?_
  rintro e w' ⟨rfl, rfl⟩
  go_wp2_with fail
  refine (entry_none H.out HD.out HK.out _ HL.out).mono ?_
  rintro e w' ⟨rfl, rfl⟩
  go_wp2
  go_ret
  exact ⟨rfl, rfl⟩
set_option maxRecDepth 100000 in
set_option maxHeartbeats 400000 in
theorem mv_noname {w : World} {t bd bb : Nat} {S : Tab} {nd nb : Nd} (h : Rep w t S) (d b : Int) (hd : S d.toNat = some (bd, nd)) (hb : S b.toNat = some (bb, nb)) (s ar : ByteArray) (hkd : nd.kind = 1) (hkb : nb.kind = 1) {x bx : Nat} {nx : Nd} (hl : look nd.names s = some x) (hx : S x = some (bx, nx)) (hn : nameB ar = false) :
    Calls Try.prog 24 #[.pointer (some ⟨t, 0, none⟩), .int .i64 d, .string s, .int .i64 b, .string ar] w fun e w' => e = .returned (.int .i64 1) ∧ w = w' := by
  have c1 : w.cell? ⟨bd, 1, none⟩ = some (.int .i64 1) := by rw [h.c1 hd, hkd]
  have e1 : w.cell? ⟨bb, 1, none⟩ = some (.int .i64 1) := by rw [h.c1 hb, hkb]
  have HK := Lib.hid hkd
  have HKB := Lib.hid hkb
  have HL := Lib.hid hl
  have HX := Lib.hid hx
  have H := Lib.hid h
  have HD := Lib.hid hd
  have HB := Lib.hid hb
  clear h hd hb hkd hkb hl hx
  go_enter Try.func24, Try.ntmps24
  go_wp2_with fail
  refine (pair_ok H.out _ _ HD.out HB.out).mono ?_
  rintro e w' ⟨rfl, rfl⟩
  go_wp2_with fail
  refine (entry_some H.out HD.out HK.out _ _ HL.out HX.out).mono ?_
  rintro e w' ⟨rfl, rfl⟩
  go_wp2_with fail
  refine (name_any _ _).mono ?_
  rintro e w' ⟨rfl, rfl⟩
  go_wp2
  go_ret
  exact ⟨rfl, rfl⟩
set_option maxRecDepth 100000 in
set_option maxHeartbeats 400000 in
theorem mv_in {w : World} {t bd bb : Nat} {S : Tab} {nd nb : Nd} (h : Rep w t S) (d b : Int) (hd : S d.toNat = some (bd, nd)) (hb : S b.toNat = some (bb, nb)) (s ar : ByteArray) (hkd : nd.kind = 1) (hkb : nb.kind = 1) {x bx : Nat} {nx : Nd} (hl : look nd.names s = some x) (hx : S x = some (bx, nx)) (hn : nameB ar = true) (hkx : nx.kind = 1) (hwi : Calls Try.prog 51 #[.pointer (some ⟨t, 0, none⟩), .pointer (some ⟨bb, 0, none⟩), .pointer (some ⟨bx, 0, none⟩)] w fun e w' => e = .returned (.bool true) ∧ Below w.heap.size w w') :
    Calls Try.prog 24 #[.pointer (some ⟨t, 0, none⟩), .int .i64 d, .string s, .int .i64 b, .string ar] w fun e w' => e = .returned (.int .i64 8) ∧ Below w.heap.size w w' := by
  have c1 : w.cell? ⟨bd, 1, none⟩ = some (.int .i64 1) := by rw [h.c1 hd, hkd]
  have e1 : w.cell? ⟨bb, 1, none⟩ = some (.int .i64 1) := by rw [h.c1 hb, hkb]
  have HK := Lib.hid hkd
  have HKB := Lib.hid hkb
  have HL := Lib.hid hl
  have HX := Lib.hid hx
  have d1 : w.cell? ⟨bx, 1, none⟩ = some (.int .i64 1) := by rw [h.c1 hx, hkx]
  have HW := Lib.hid hwi
  have H := Lib.hid h
  have HD := Lib.hid hd
  have HB := Lib.hid hb
  clear h hd hb hkd hkb hl hx hkx hwi
  go_enter Try.func24, Try.ntmps24
  go_wp2_with fail
  refine (pair_ok H.out _ _ HD.out HB.out).mono ?_
  rintro e w' ⟨rfl, rfl⟩
  go_wp2_with fail
  refine (entry_some H.out HD.out HK.out _ _ HL.out HX.out).mono ?_
  rintro e w' ⟨rfl, rfl⟩
  go_wp2_with fail
  refine (name_any _ _).mono ?_
  rintro e w' ⟨rfl, rfl⟩
  go_wp2_with fail
  refine HW.out.mono ?_
  rintro e w' ⟨rfl, hbl⟩
  have HBL := Lib.hid hbl
  clear hbl
  go_wp2
  go_ret
  exact ⟨rfl, HBL.out⟩
set_option maxRecDepth 100000 in
set_option maxHeartbeats 400000 in
theorem mv_samed {w : World} {t bd bb : Nat} {S : Tab} {nd nb : Nd} (h : Rep w t S) (d b : Int) (hd : S d.toNat = some (bd, nd)) (hb : S b.toNat = some (bb, nb)) (s ar : ByteArray) (hkd : nd.kind = 1) (hkb : nb.kind = 1) {x bx : Nat} {nx : Nd} (hl : look nd.names s = some x) (hx : S x = some (bx, nx)) (hn : nameB ar = true) (hkx : nx.kind = 1) (hwi : Calls Try.prog 51 #[.pointer (some ⟨t, 0, none⟩), .pointer (some ⟨bb, 0, none⟩), .pointer (some ⟨bx, 0, none⟩)] w fun e w' => e = .returned (.bool false) ∧ Below w.heap.size w w') (hla : look nb.names ar = some x) :
    Calls Try.prog 24 #[.pointer (some ⟨t, 0, none⟩), .int .i64 d, .string s, .int .i64 b, .string ar] w fun e w' => e = .returned (.int .i64 0) ∧ Below w.heap.size w w' := by
  have c1 : w.cell? ⟨bd, 1, none⟩ = some (.int .i64 1) := by rw [h.c1 hd, hkd]
  have e1 : w.cell? ⟨bb, 1, none⟩ = some (.int .i64 1) := by rw [h.c1 hb, hkb]
  have HK := Lib.hid hkd
  have HKB := Lib.hid hkb
  have HL := Lib.hid hl
  have HX := Lib.hid hx
  have d1 : w.cell? ⟨bx, 1, none⟩ = some (.int .i64 1) := by rw [h.c1 hx, hkx]
  have HW := Lib.hid hwi
  have HKX := Lib.hid hkx
  have HLA := Lib.hid hla
  have H := Lib.hid h
  have HD := Lib.hid hd
  have HB := Lib.hid hb
  clear h hd hb hkd hkb hl hx hkx hwi hla
  go_enter Try.func24, Try.ntmps24
  go_wp2_with fail
  refine (pair_ok H.out _ _ HD.out HB.out).mono ?_
  rintro e w' ⟨rfl, rfl⟩
  go_wp2_with fail
  refine (entry_some H.out HD.out HK.out _ _ HL.out HX.out).mono ?_
  rintro e w' ⟨rfl, rfl⟩
  go_wp2_with fail
  refine (name_any _ _).mono ?_
  rintro e w' ⟨rfl, rfl⟩
  go_wp2_with fail
  refine HW.out.mono ?_
  rintro e wr ⟨rfl, hbl⟩
  have HMB := Lib.hid ((Mv.refl H.out).below hbl)
  have HBL := Lib.hid hbl
  clear hbl HW c1 e1 d1
  have HR := Lib.hid HMB.out.rep
  have d1 : wr.cell? ⟨bx, 1, none⟩ = some (.int .i64 1) := by rw [HR.out.c1 HX.out, HKX.out]
  have hq := eql_self wr bx
  go_wp2_with fail
  refine (entry_some HR.out HB.out HKB.out _ _ HLA.out HX.out).mono ?_
  rintro e w' ⟨rfl, rfl⟩
  go_wp2
  go_ret
  exact ⟨rfl, HBL.out⟩
set_option maxRecDepth 100000 in
set_option maxHeartbeats 400000 in
theorem mv_samef {w : World} {t bd bb : Nat} {S : Tab} {nd nb : Nd} (h : Rep w t S) (d b : Int) (hd : S d.toNat = some (bd, nd)) (hb : S b.toNat = some (bb, nb)) (s ar : ByteArray) (hkd : nd.kind = 1) (hkb : nb.kind = 1) {x bx : Nat} {nx : Nd} (hl : look nd.names s = some x) (hx : S x = some (bx, nx)) (hn : nameB ar = true) (hkx : ¬ nx.kind = 1) (hla : look nb.names ar = some x) :
    Calls Try.prog 24 #[.pointer (some ⟨t, 0, none⟩), .int .i64 d, .string s, .int .i64 b, .string ar] w fun e w' => e = .returned (.int .i64 0) ∧ Below w.heap.size w w' := by
  have c1 : w.cell? ⟨bd, 1, none⟩ = some (.int .i64 1) := by rw [h.c1 hd, hkd]
  have e1 : w.cell? ⟨bb, 1, none⟩ = some (.int .i64 1) := by rw [h.c1 hb, hkb]
  have HK := Lib.hid hkd
  have HKB := Lib.hid hkb
  have HL := Lib.hid hl
  have HX := Lib.hid hx
  have d1 := h.c1 hx
  have hkxb : (nx.kind == 1) = false := by simpa using hkx
  have HKX := Lib.hid hkx
  have HLA := Lib.hid hla
  have H := Lib.hid h
  have HD := Lib.hid hd
  have HB := Lib.hid hb
  clear h hd hb hkd hkb hl hx hkx hla
  go_enter Try.func24, Try.ntmps24
  go_wp2_with fail
  refine (pair_ok H.out _ _ HD.out HB.out).mono ?_
  rintro e w' ⟨rfl, rfl⟩
  go_wp2_with fail
  refine (entry_some H.out HD.out HK.out _ _ HL.out HX.out).mono ?_
  rintro e w' ⟨rfl, rfl⟩
  go_wp2_with fail
  refine (name_any _ _).mono ?_
  rintro e w' ⟨rfl, rfl⟩
  have HMB := Lib.hid (Mv.refl H.out)
  have HBL := Lib.hid (Below.refl w.heap.size w)
  have HR := Lib.hid H.out
  have hq := eql_self w bx
  go_wp2_with fail
  refine (entry_some HR.out HB.out HKB.out _ _ HLA.out HX.out).mono ?_
  rintro e w' ⟨rfl, rfl⟩
  go_wp2
  go_ret
  exact ⟨rfl, HBL.out⟩
set_option maxRecDepth 100000 in
set_option maxHeartbeats 400000 in
theorem mv_fulld {w : World} {t bd bb : Nat} {S : Tab} {nd nb : Nd} (h : Rep w t S) (d b : Int) (hd : S d.toNat = some (bd, nd)) (hb : S b.toNat = some (bb, nb)) (s ar : ByteArray) (hkd : nd.kind = 1) (hkb : nb.kind = 1) {x bx : Nat} {nx : Nd} (hl : look nd.names s = some x) (hx : S x = some (bx, nx)) (hn : nameB ar = true) (hkx : nx.kind = 1) (hwi : Calls Try.prog 51 #[.pointer (some ⟨t, 0, none⟩), .pointer (some ⟨bb, 0, none⟩), .pointer (some ⟨bx, 0, none⟩)] w fun e w' => e = .returned (.bool false) ∧ Below w.heap.size w w') (hla : look nb.names ar = none) (hdb : d.toNat ≠ b.toNat) (hfu : 40 ≤ nb.names.length) :
    Calls Try.prog 24 #[.pointer (some ⟨t, 0, none⟩), .int .i64 d, .string s, .int .i64 b, .string ar] w fun e w' => e = .returned (.int .i64 9) ∧ Below w.heap.size w w' := by
  have c1 : w.cell? ⟨bd, 1, none⟩ = some (.int .i64 1) := by rw [h.c1 hd, hkd]
  have e1 : w.cell? ⟨bb, 1, none⟩ = some (.int .i64 1) := by rw [h.c1 hb, hkb]
  have HK := Lib.hid hkd
  have HKB := Lib.hid hkb
  have HL := Lib.hid hl
  have HX := Lib.hid hx
  have d1 : w.cell? ⟨bx, 1, none⟩ = some (.int .i64 1) := by rw [h.c1 hx, hkx]
  have HW := Lib.hid hwi
  have HKX := Lib.hid hkx
  have HLA := Lib.hid hla
  obtain ⟨mb, hmb⟩ := h.dir_mp hb hkb
  have HMP := Lib.hid hmb
  have HDB : Hid (bd ≠ bb) := Lib.hid (fun e => hdb (h.inj _ _ _ _ _ (e ▸ hd) hb))
  have hn1 : 40 ≤ (nb.names.length : Int) := by omega
  have H := Lib.hid h
  have HD := Lib.hid hd
  have HB := Lib.hid hb
  clear h hd hb hkd hkb hl hx hkx hwi hla hmb hdb hfu
  go_enter Try.func24, Try.ntmps24
  go_wp2_with fail
  refine (pair_ok H.out _ _ HD.out HB.out).mono ?_
  rintro e w' ⟨rfl, rfl⟩
  go_wp2_with fail
  refine (entry_some H.out HD.out HK.out _ _ HL.out HX.out).mono ?_
  rintro e w' ⟨rfl, rfl⟩
  go_wp2_with fail
  refine (name_any _ _).mono ?_
  rintro e w' ⟨rfl, rfl⟩
  go_wp2_with fail
  refine HW.out.mono ?_
  rintro e wr ⟨rfl, hbl⟩
  have HMB := Lib.hid ((Mv.refl H.out).below hbl)
  have HBL := Lib.hid hbl
  clear hbl HW c1 e1 d1
  have HR := Lib.hid HMB.out.rep
  have d1 : wr.cell? ⟨bx, 1, none⟩ = some (.int .i64 1) := by rw [HR.out.c1 HX.out, HKX.out]
  have hq := fun (W : World) => eql_nil_some (P := Try.prog) W 68 ⟨bx, 0, none⟩ Try.underlying68
  have c10 : wr.cell? ⟨bb, 10, none⟩ = some (.map (some mb)) := by rw [HR.out.c10 HB.out, HMP.out]
  have hlen : ∀ ty, (Builtin.len_ #[84] ty #[.map (some mb)]).run Try.prog wr = .ok (.int .i64 nb.names.length) wr := fun ty => HMP.out ▸ HR.out.len HB.out ty
  have hne := neq_nodes (w := wr) (HR.out.node _ bd nd HD.out) (HR.out.node _ bb nb HB.out) HDB.out
  go_wp2_with fail
  refine (entry_none HR.out HB.out HKB.out _ HLA.out).mono ?_
  rintro e w' ⟨rfl, rfl⟩
  go_wp2
  go_ret
  exact ⟨rfl, HBL.out⟩
set_option maxRecDepth 100000 in
set_option maxHeartbeats 400000 in
theorem mv_fullf {w : World} {t bd bb : Nat} {S : Tab} {nd nb : Nd} (h : Rep w t S) (d b : Int) (hd : S d.toNat = some (bd, nd)) (hb : S b.toNat = some (bb, nb)) (s ar : ByteArray) (hkd : nd.kind = 1) (hkb : nb.kind = 1) {x bx : Nat} {nx : Nd} (hl : look nd.names s = some x) (hx : S x = some (bx, nx)) (hn : nameB ar = true) (hkx : ¬ nx.kind = 1) (hla : look nb.names ar = none) (hdb : d.toNat ≠ b.toNat) (hfu : 40 ≤ nb.names.length) :
    Calls Try.prog 24 #[.pointer (some ⟨t, 0, none⟩), .int .i64 d, .string s, .int .i64 b, .string ar] w fun e w' => e = .returned (.int .i64 9) ∧ Below w.heap.size w w' := by
  have c1 : w.cell? ⟨bd, 1, none⟩ = some (.int .i64 1) := by rw [h.c1 hd, hkd]
  have e1 : w.cell? ⟨bb, 1, none⟩ = some (.int .i64 1) := by rw [h.c1 hb, hkb]
  have HK := Lib.hid hkd
  have HKB := Lib.hid hkb
  have HL := Lib.hid hl
  have HX := Lib.hid hx
  have d1 := h.c1 hx
  have hkxb : (nx.kind == 1) = false := by simpa using hkx
  have HKX := Lib.hid hkx
  have HLA := Lib.hid hla
  obtain ⟨mb, hmb⟩ := h.dir_mp hb hkb
  have HMP := Lib.hid hmb
  have HDB : Hid (bd ≠ bb) := Lib.hid (fun e => hdb (h.inj _ _ _ _ _ (e ▸ hd) hb))
  have hn1 : 40 ≤ (nb.names.length : Int) := by omega
  have H := Lib.hid h
  have HD := Lib.hid hd
  have HB := Lib.hid hb
  clear h hd hb hkd hkb hl hx hkx hla hmb hdb hfu
  go_enter Try.func24, Try.ntmps24
  go_wp2_with fail
  refine (pair_ok H.out _ _ HD.out HB.out).mono ?_
  rintro e w' ⟨rfl, rfl⟩
  go_wp2_with fail
  refine (entry_some H.out HD.out HK.out _ _ HL.out HX.out).mono ?_
  rintro e w' ⟨rfl, rfl⟩
  go_wp2_with fail
  refine (name_any _ _).mono ?_
  rintro e w' ⟨rfl, rfl⟩
  have HMB := Lib.hid (Mv.refl H.out)
  have HBL := Lib.hid (Below.refl w.heap.size w)
  have HR := Lib.hid H.out
  have hq := fun (W : World) => eql_nil_some (P := Try.prog) W 68 ⟨bx, 0, none⟩ Try.underlying68
  have c10 : w.cell? ⟨bb, 10, none⟩ = some (.map (some mb)) := by rw [HR.out.c10 HB.out, HMP.out]
  have hlen : ∀ ty, (Builtin.len_ #[84] ty #[.map (some mb)]).run Try.prog w = .ok (.int .i64 nb.names.length) w := fun ty => HMP.out ▸ HR.out.len HB.out ty
  have hne := neq_nodes (w := w) (HR.out.node _ bd nd HD.out) (HR.out.node _ bb nb HB.out) HDB.out
  go_wp2_with fail
  refine (entry_none HR.out HB.out HKB.out _ HLA.out).mono ?_
  rintro e w' ⟨rfl, rfl⟩
  go_wp2
  go_ret
  exact ⟨rfl, HBL.out⟩
set_option maxRecDepth 100000 in
set_option maxHeartbeats 400000 in
theorem mv_kindsd {w : World} {t bd bb : Nat} {S : Tab} {nd nb : Nd} (h : Rep w t S) (d b : Int) (hd : S d.toNat = some (bd, nd)) (hb : S b.toNat = some (bb, nb)) (s ar : ByteArray) (hkd : nd.kind = 1) (hkb : nb.kind = 1) {x bx : Nat} {nx : Nd} (hl : look nd.names s = some x) (hx : S x = some (bx, nx)) (hn : nameB ar = true) (hkx : nx.kind = 1) (hwi : Calls Try.prog 51 #[.pointer (some ⟨t, 0, none⟩), .pointer (some ⟨bb, 0, none⟩), .pointer (some ⟨bx, 0, none⟩)] w fun e w' => e = .returned (.bool false) ∧ Below w.heap.size w w') {y by_ : Nat} {ny : Nd} (hla : look nb.names ar = some y) (hy : S y = some (by_, ny)) (hyx : y ≠ x) (hky : ¬ ny.kind = 1) :
    Calls Try.prog 24 #[.pointer (some ⟨t, 0, none⟩), .int .i64 d, .string s, .int .i64 b, .string ar] w fun e w' => e = .returned (.int .i64 7) ∧ Below w.heap.size w w' := by
  have c1 : w.cell? ⟨bd, 1, none⟩ = some (.int .i64 1) := by rw [h.c1 hd, hkd]
  have e1 : w.cell? ⟨bb, 1, none⟩ = some (.int .i64 1) := by rw [h.c1 hb, hkb]
  have HK := Lib.hid hkd
  have HKB := Lib.hid hkb
  have HL := Lib.hid hl
  have HX := Lib.hid hx
  have d1 : w.cell? ⟨bx, 1, none⟩ = some (.int .i64 1) := by rw [h.c1 hx, hkx]
  have HW := Lib.hid hwi
  have HKX := Lib.hid hkx
  have HLA := Lib.hid hla
  have HY := Lib.hid hy
  have HYX : Hid (by_ ≠ bx) := Lib.hid (fun e => hyx (h.inj _ _ _ _ _ (e ▸ hy) hx))
  have HKY := Lib.hid hky
  have H := Lib.hid h
  have HD := Lib.hid hd
  have HB := Lib.hid hb
  clear h hd hb hkd hkb hl hx hkx hwi hla hy hyx hky
  go_enter Try.func24, Try.ntmps24
  go_wp2_with fail
  refine (pair_ok H.out _ _ HD.out HB.out).mono ?_
  rintro e w' ⟨rfl, rfl⟩
  go_wp2_with fail
  refine (entry_some H.out HD.out HK.out _ _ HL.out HX.out).mono ?_
  rintro e w' ⟨rfl, rfl⟩
  go_wp2_with fail
  refine (name_any _ _).mono ?_
  rintro e w' ⟨rfl, rfl⟩
  go_wp2_with fail
  refine HW.out.mono ?_
  rintro e wr ⟨rfl, hbl⟩
  have HMB := Lib.hid ((Mv.refl H.out).below hbl)
  have HBL := Lib.hid hbl
  clear hbl HW c1 e1 d1
  have HR := Lib.hid HMB.out.rep
  have d1 : wr.cell? ⟨bx, 1, none⟩ = some (.int .i64 1) := by rw [HR.out.c1 HX.out, HKX.out]
  have hq := eql_nodes (w := wr) (HR.out.node _ by_ ny HY.out) (HR.out.node _ bx nx HX.out) HYX.out
  have g1 := HR.out.c1 HY.out
  have hkyb : (ny.kind == 1) = false := by have := HKY.out; simpa using this
  go_wp2_with fail
  refine (entry_some HR.out HB.out HKB.out _ _ HLA.out HY.out).mono ?_
  rintro e w' ⟨rfl, rfl⟩
  go_wp2
  go_quiet (fail)
  go_wp2
  go_ret
  exact ⟨rfl, belowDrewN HBL.out _⟩
set_option maxRecDepth 100000 in
set_option maxHeartbeats 400000 in
theorem mv_kindsf {w : World} {t bd bb : Nat} {S : Tab} {nd nb : Nd} (h : Rep w t S) (d b : Int) (hd : S d.toNat = some (bd, nd)) (hb : S b.toNat = some (bb, nb)) (s ar : ByteArray) (hkd : nd.kind = 1) (hkb : nb.kind = 1) {x bx : Nat} {nx : Nd} (hl : look nd.names s = some x) (hx : S x = some (bx, nx)) (hn : nameB ar = true) (hkx : ¬ nx.kind = 1) {y by_ : Nat} {ny : Nd} (hla : look nb.names ar = some y) (hy : S y = some (by_, ny)) (hyx : y ≠ x) (hky : ny.kind = 1) :
    Calls Try.prog 24 #[.pointer (some ⟨t, 0, none⟩), .int .i64 d, .string s, .int .i64 b, .string ar] w fun e w' => e = .returned (.int .i64 7) ∧ Below w.heap.size w w' := by
  have c1 : w.cell? ⟨bd, 1, none⟩ = some (.int .i64 1) := by rw [h.c1 hd, hkd]
  have e1 : w.cell? ⟨bb, 1, none⟩ = some (.int .i64 1) := by rw [h.c1 hb, hkb]
  have HK := Lib.hid hkd
  have HKB := Lib.hid hkb
  have HL := Lib.hid hl
  have HX := Lib.hid hx
  have d1 := h.c1 hx
  have hkxb : (nx.kind == 1) = false := by simpa using hkx
  have HKX := Lib.hid hkx
  have HLA := Lib.hid hla
  have HY := Lib.hid hy
  have HYX : Hid (by_ ≠ bx) := Lib.hid (fun e => hyx (h.inj _ _ _ _ _ (e ▸ hy) hx))
  have HKY := Lib.hid hky
  have H := Lib.hid h
  have HD := Lib.hid hd
  have HB := Lib.hid hb
  clear h hd hb hkd hkb hl hx hkx hla hy hyx hky
  go_enter Try.func24, Try.ntmps24
  go_wp2_with fail
  refine (pair_ok H.out _ _ HD.out HB.out).mono ?_
  rintro e w' ⟨rfl, rfl⟩
  go_wp2_with fail
  refine (entry_some H.out HD.out HK.out _ _ HL.out HX.out).mono ?_
  rintro e w' ⟨rfl, rfl⟩
  go_wp2_with fail
  refine (name_any _ _).mono ?_
  rintro e w' ⟨rfl, rfl⟩
  have HMB := Lib.hid (Mv.refl H.out)
  have HBL := Lib.hid (Below.refl w.heap.size w)
  have HR := Lib.hid H.out
  have hq := eql_nodes (w := w) (HR.out.node _ by_ ny HY.out) (HR.out.node _ bx nx HX.out) HYX.out
  have g1 : w.cell? ⟨by_, 1, none⟩ = some (.int .i64 1) := by rw [HR.out.c1 HY.out, HKY.out]
  go_wp2_with fail
  refine (entry_some HR.out HB.out HKB.out _ _ HLA.out HY.out).mono ?_
  rintro e w' ⟨rfl, rfl⟩
  go_wp2
  go_quiet (fail)
  go_wp2
  go_ret
  exact ⟨rfl, belowDrewN HBL.out _⟩
set_option maxRecDepth 100000 in
set_option maxHeartbeats 400000 in
theorem mv_busyd {w : World} {t bd bb : Nat} {S : Tab} {nd nb : Nd} (h : Rep w t S) (d b : Int) (hd : S d.toNat = some (bd, nd)) (hb : S b.toNat = some (bb, nb)) (s ar : ByteArray) (hkd : nd.kind = 1) (hkb : nb.kind = 1) {x bx : Nat} {nx : Nd} (hl : look nd.names s = some x) (hx : S x = some (bx, nx)) (hn : nameB ar = true) (hkx : nx.kind = 1) (hwi : Calls Try.prog 51 #[.pointer (some ⟨t, 0, none⟩), .pointer (some ⟨bb, 0, none⟩), .pointer (some ⟨bx, 0, none⟩)] w fun e w' => e = .returned (.bool false) ∧ Below w.heap.size w w') {y by_ : Nat} {ny : Nd} (hla : look nb.names ar = some y) (hy : S y = some (by_, ny)) (hyx : y ≠ x) (hny : 0 < ny.names.length) (hky : ny.kind = 1) :
    Calls Try.prog 24 #[.pointer (some ⟨t, 0, none⟩), .int .i64 d, .string s, .int .i64 b, .string ar] w fun e w' => e = .returned (.int .i64 8) ∧ Below w.heap.size w w' := by
  have c1 : w.cell? ⟨bd, 1, none⟩ = some (.int .i64 1) := by rw [h.c1 hd, hkd]
  have e1 : w.cell? ⟨bb, 1, none⟩ = some (.int .i64 1) := by rw [h.c1 hb, hkb]
  have HK := Lib.hid hkd
  have HKB := Lib.hid hkb
  have HL := Lib.hid hl
  have HX := Lib.hid hx
  have d1 : w.cell? ⟨bx, 1, none⟩ = some (.int .i64 1) := by rw [h.c1 hx, hkx]
  have HW := Lib.hid hwi
  have HKX := Lib.hid hkx
  have HLA := Lib.hid hla
  have HY := Lib.hid hy
  have HYX : Hid (by_ ≠ bx) := Lib.hid (fun e => hyx (h.inj _ _ _ _ _ (e ▸ hy) hx))
  have HKY := Lib.hid hky
  have hny1 : 0 < (ny.names.length : Int) := by omega
  have H := Lib.hid h
  have HD := Lib.hid hd
  have HB := Lib.hid hb
  clear h hd hb hkd hkb hl hx hkx hwi hla hy hyx hky hny
  go_enter Try.func24, Try.ntmps24
  go_wp2_with fail
  refine (pair_ok H.out _ _ HD.out HB.out).mono ?_
  rintro e w' ⟨rfl, rfl⟩
  go_wp2_with fail
  refine (entry_some H.out HD.out HK.out _ _ HL.out HX.out).mono ?_
  rintro e w' ⟨rfl, rfl⟩
  go_wp2_with fail
  refine (name_any _ _).mono ?_
  rintro e w' ⟨rfl, rfl⟩
  go_wp2_with fail
  refine HW.out.mono ?_
  rintro e wr ⟨rfl, hbl⟩
  have HMB := Lib.hid ((Mv.refl H.out).below hbl)
  have HBL := Lib.hid hbl
  clear hbl HW c1 e1 d1
  have HR := Lib.hid HMB.out.rep
  have d1 : wr.cell? ⟨bx, 1, none⟩ = some (.int .i64 1) := by rw [HR.out.c1 HX.out, HKX.out]
  have hq := eql_nodes (w := wr) (HR.out.node _ by_ ny HY.out) (HR.out.node _ bx nx HX.out) HYX.out
  have g1 : wr.cell? ⟨by_, 1, none⟩ = some (.int .i64 1) := by rw [HR.out.c1 HY.out, HKY.out]
  have g10 := HR.out.c10 HY.out
  have hleny : ∀ j ty, (Builtin.len_ #[84] ty #[.map ny.mp]).run Try.prog (wr.drewN j) = .ok (.int .i64 ny.names.length) (wr.drewN j) := fun j ty => by have e := (HR.out.drewN j).len HY.out ty; exact e
  go_wp2_with fail
  refine (entry_some HR.out HB.out HKB.out _ _ HLA.out HY.out).mono ?_
  rintro e w' ⟨rfl, rfl⟩
  go_wp2
  go_quiet (fail)
  go_wp2
  go_ret
  exact ⟨rfl, belowDrewN HBL.out _⟩
set_option maxRecDepth 100000 in
set_option maxHeartbeats 400000 in
theorem mv_busyf {w : World} {t bd bb : Nat} {S : Tab} {nd nb : Nd} (h : Rep w t S) (d b : Int) (hd : S d.toNat = some (bd, nd)) (hb : S b.toNat = some (bb, nb)) (s ar : ByteArray) (hkd : nd.kind = 1) (hkb : nb.kind = 1) {x bx : Nat} {nx : Nd} (hl : look nd.names s = some x) (hx : S x = some (bx, nx)) (hn : nameB ar = true) (hkx : ¬ nx.kind = 1) {y by_ : Nat} {ny : Nd} (hla : look nb.names ar = some y) (hy : S y = some (by_, ny)) (hyx : y ≠ x) (hny : 0 < ny.names.length) (hky : ¬ ny.kind = 1) :
    Calls Try.prog 24 #[.pointer (some ⟨t, 0, none⟩), .int .i64 d, .string s, .int .i64 b, .string ar] w fun e w' => e = .returned (.int .i64 8) ∧ Below w.heap.size w w' := by
  have c1 : w.cell? ⟨bd, 1, none⟩ = some (.int .i64 1) := by rw [h.c1 hd, hkd]
  have e1 : w.cell? ⟨bb, 1, none⟩ = some (.int .i64 1) := by rw [h.c1 hb, hkb]
  have HK := Lib.hid hkd
  have HKB := Lib.hid hkb
  have HL := Lib.hid hl
  have HX := Lib.hid hx
  have d1 := h.c1 hx
  have hkxb : (nx.kind == 1) = false := by simpa using hkx
  have HKX := Lib.hid hkx
  have HLA := Lib.hid hla
  have HY := Lib.hid hy
  have HYX : Hid (by_ ≠ bx) := Lib.hid (fun e => hyx (h.inj _ _ _ _ _ (e ▸ hy) hx))
  have HKY := Lib.hid hky
  have hny1 : 0 < (ny.names.length : Int) := by omega
  have H := Lib.hid h
  have HD := Lib.hid hd
  have HB := Lib.hid hb
  clear h hd hb hkd hkb hl hx hkx hla hy hyx hky hny
  go_enter Try.func24, Try.ntmps24
  go_wp2_with fail
  refine (pair_ok H.out _ _ HD.out HB.out).mono ?_
  rintro e w' ⟨rfl, rfl⟩
  go_wp2_with fail
  refine (entry_some H.out HD.out HK.out _ _ HL.out HX.out).mono ?_
  rintro e w' ⟨rfl, rfl⟩
  go_wp2_with fail
  refine (name_any _ _).mono ?_
  rintro e w' ⟨rfl, rfl⟩
  have HMB := Lib.hid (Mv.refl H.out)
  have HBL := Lib.hid (Below.refl w.heap.size w)
  have HR := Lib.hid H.out
  have hq := eql_nodes (w := w) (HR.out.node _ by_ ny HY.out) (HR.out.node _ bx nx HX.out) HYX.out
  have g1 := HR.out.c1 HY.out
  have hkyb : (ny.kind == 1) = false := by have := HKY.out; simpa using this
  have g10 := HR.out.c10 HY.out
  have hleny : ∀ j ty, (Builtin.len_ #[84] ty #[.map ny.mp]).run Try.prog (w.drewN j) = .ok (.int .i64 ny.names.length) (w.drewN j) := fun j ty => by have e := (HR.out.drewN j).len HY.out ty; exact e
  go_wp2_with fail
  refine (entry_some HR.out HB.out HKB.out _ _ HLA.out HY.out).mono ?_
  rintro e w' ⟨rfl, rfl⟩
  go_wp2
  go_quiet (fail)
  go_wp2
  go_ret
  exact ⟨rfl, belowDrewN HBL.out _⟩
set_option maxRecDepth 100000 in
set_option maxHeartbeats 800000 in
theorem mv_oksd {w : World} {t bd bb : Nat} {S : Tab} {nd nb : Nd} (h : Rep w t S) (d b : Int) (hd : S d.toNat = some (bd, nd)) (hb : S b.toNat = some (bb, nb)) (s ar : ByteArray) (hkd : nd.kind = 1) (hkb : nb.kind = 1) {x bx : Nat} {nx : Nd} (hl : look nd.names s = some x) (hx : S x = some (bx, nx)) (hn : nameB ar = true) (hkx : nx.kind = 1) (hwi : Calls Try.prog 51 #[.pointer (some ⟨t, 0, none⟩), .pointer (some ⟨bb, 0, none⟩), .pointer (some ⟨bx, 0, none⟩)] w fun e w' => e = .returned (.bool false) ∧ Below w.heap.size w w') (hla : look nb.names ar = none) (hdb : d.toNat = b.toNat) (hxd : x ≠ d.toNat) (hxb : x ≠ b.toNat) {nb1 : Nd} (hnb1 : nb1 = (if b.toNat = d.toNat then { nd with names := delL nd.names s } else nb)) (h40 : (delL nb1.names ar).length < 40) :
    Calls Try.prog 24 #[.pointer (some ⟨t, 0, none⟩), .int .i64 d, .string s, .int .i64 b, .string ar] w fun e w' => e = .returned (.int .i64 0) ∧ ∃ l2 : List (ByteArray × Nat), l2.Perm ((ar, x) :: delL nb1.names ar) ∧ Mv w t S w' (movedS S d.toNat b.toNat x bd nd bb nb1 bx nx s l2) := by
  have c1 : w.cell? ⟨bd, 1, none⟩ = some (.int .i64 1) := by rw [h.c1 hd, hkd]
  have e1 : w.cell? ⟨bb, 1, none⟩ = some (.int .i64 1) := by rw [h.c1 hb, hkb]
  have HK := Lib.hid hkd
  have HKB := Lib.hid hkb
  have HL := Lib.hid hl
  have HX := Lib.hid hx
  have d1 : w.cell? ⟨bx, 1, none⟩ = some (.int .i64 1) := by rw [h.c1 hx, hkx]
  have HW := Lib.hid hwi
  have HKX := Lib.hid hkx
  have HLA := Lib.hid hla
  have HN1 := Lib.hid hnb1
  have HXD := Lib.hid hxd
  have HXB := Lib.hid hxb
  have H40 := Lib.hid h40
  have HBP : Hid (((b.toNat : Nat) : Int) = b) := Lib.hid (by have := h.rng _ _ hb; omega)
  have HDB : Hid (bb = bd) := Lib.hid (by rw [hdb, hb] at hd; exact (Prod.mk.inj (Option.some.inj hd)).1)
  have H := Lib.hid h
  have HD := Lib.hid hd
  have HB := Lib.hid hb
  clear h hd hb hkd hkb hl hx hkx hwi hla hdb hxd hxb h40 hnb1
  go_enter Try.func24, Try.ntmps24
  go_wp2_with fail
  refine (pair_ok H.out _ _ HD.out HB.out).mono ?_
  rintro e w' ⟨rfl, rfl⟩
  go_wp2_with fail
  refine (entry_some H.out HD.out HK.out _ _ HL.out HX.out).mono ?_
  rintro e w' ⟨rfl, rfl⟩
  go_wp2_with fail
  refine (name_any _ _).mono ?_
  rintro e w' ⟨rfl, rfl⟩
  go_wp2_with fail
  refine HW.out.mono ?_
  rintro e wr ⟨rfl, hbl⟩
  have HMB := Lib.hid ((Mv.refl H.out).below hbl)
  have HBL := Lib.hid hbl
  clear hbl HW c1 e1 d1
  have HR := Lib.hid HMB.out.rep
  have d1 : wr.cell? ⟨bx, 1, none⟩ = some (.int .i64 1) := by rw [HR.out.c1 HX.out, HKX.out]
  have hq := fun (W : World) => eql_nil_some (P := Try.prog) W 68 ⟨bx, 0, none⟩ Try.underlying68
  have hne : (binOp .neq 68 (.pointer (some ⟨bd, 0, none⟩)) (.pointer (some ⟨bb, 0, none⟩))).run Try.prog wr = .ok (.bool false) wr := by rw [HDB.out]; exact neq_self wr bd
  go_wp2_with fail
  refine (entry_none HR.out HB.out HKB.out _ HLA.out).mono ?_
  rintro e w' ⟨rfl, rfl⟩
  obtain ⟨m, m2, O1, O2, l2, hmw⟩ := mvW_of HR.out HD.out HB.out HX.out HK.out HKB.out HXD.out HXB.out s ar HL.out HN1.out H40.out
  have HM := Lib.hid hmw
  have q1 := hmw.rdel
  have q2 := hmw.rupd
  have q3 := hmw.c10
  have q4 := hmw.c0
  have q5 : ∀ j, (((wr.drewN j).putObj m O1).drew.putObj m2 O2).cell? ⟨bx, 1, none⟩ = some (.int .i64 1) := fun j => by rw [(HM.out.at_x HX.out HXD.out HXB.out 1 j).1]; show some (Value.int .i64 nx.kind) = _; rw [HKX.out]
  have q6 : ∀ j, (((wr.drewN j).putObj m O1).drew.putObj m2 O2).cell? ⟨bx, 11, none⟩ = some (.int .i64 (nx.parent : Int)) := fun j => (HM.out.at_x HX.out HXD.out HXB.out 11 j).1
  have q7 : ∀ j, (((wr.drewN j).putObj m O1).drew.putObj m2 O2).frozen? ⟨bx, 11, none⟩ = false := fun j => (HM.out.at_x HX.out HXD.out HXB.out 11 j).2
  have c10d : wr.cell? ⟨bd, 10, none⟩ = some (.map (some m)) := by rw [HR.out.c10 HD.out, HM.out.mpd]
  clear hmw
  go_wp2
  go_quiet (fail)
  go_wp2
  go_region
  go_wp2
  go_ret
  exact ⟨rfl, l2, HM.out.perm, by have e := fun j => HMB.out.trans ((HM.out.fin HX.out HXD.out HXB.out j).1 HKX.out); simp only [HBP.out] at e; exact e _⟩
set_option maxRecDepth 100000 in
set_option maxHeartbeats 800000 in
theorem mv_oksf {w : World} {t bd bb : Nat} {S : Tab} {nd nb : Nd} (h : Rep w t S) (d b : Int) (hd : S d.toNat = some (bd, nd)) (hb : S b.toNat = some (bb, nb)) (s ar : ByteArray) (hkd : nd.kind = 1) (hkb : nb.kind = 1) {x bx : Nat} {nx : Nd} (hl : look nd.names s = some x) (hx : S x = some (bx, nx)) (hn : nameB ar = true) (hkx : ¬ nx.kind = 1) (hla : look nb.names ar = none) (hdb : d.toNat = b.toNat) (hxd : x ≠ d.toNat) (hxb : x ≠ b.toNat) {nb1 : Nd} (hnb1 : nb1 = (if b.toNat = d.toNat then { nd with names := delL nd.names s } else nb)) (h40 : (delL nb1.names ar).length < 40) :
    Calls Try.prog 24 #[.pointer (some ⟨t, 0, none⟩), .int .i64 d, .string s, .int .i64 b, .string ar] w fun e w' => e = .returned (.int .i64 0) ∧ ∃ l2 : List (ByteArray × Nat), l2.Perm ((ar, x) :: delL nb1.names ar) ∧ Mv w t S w' (movedS S d.toNat b.toNat x bd nd bb nb1 bx nx s l2) := by
  have c1 : w.cell? ⟨bd, 1, none⟩ = some (.int .i64 1) := by rw [h.c1 hd, hkd]
  have e1 : w.cell? ⟨bb, 1, none⟩ = some (.int .i64 1) := by rw [h.c1 hb, hkb]
  have HK := Lib.hid hkd
  have HKB := Lib.hid hkb
  have HL := Lib.hid hl
  have HX := Lib.hid hx
  have d1 := h.c1 hx
  have hkxb : (nx.kind == 1) = false := by simpa using hkx
  have HKX := Lib.hid hkx
  have HLA := Lib.hid hla
  have HN1 := Lib.hid hnb1
  have HXD := Lib.hid hxd
  have HXB := Lib.hid hxb
  have H40 := Lib.hid h40
  have HBP : Hid (((b.toNat : Nat) : Int) = b) := Lib.hid (by have := h.rng _ _ hb; omega)
  have HDB : Hid (bb = bd) := Lib.hid (by rw [hdb, hb] at hd; exact (Prod.mk.inj (Option.some.inj hd)).1)
  have H := Lib.hid h
  have HD := Lib.hid hd
  have HB := Lib.hid hb
  clear h hd hb hkd hkb hl hx hkx hla hdb hxd hxb h40 hnb1
  go_enter Try.func24, Try.ntmps24
  go_wp2_with fail
  refine (pair_ok H.out _ _ HD.out HB.out).mono ?_
  rintro e w' ⟨rfl, rfl⟩
  go_wp2_with fail
  refine (entry_some H.out HD.out HK.out _ _ HL.out HX.out).mono ?_
  rintro e w' ⟨rfl, rfl⟩
  go_wp2_with fail
  refine (name_any _ _).mono ?_
  rintro e w' ⟨rfl, rfl⟩
  have HMB := Lib.hid (Mv.refl H.out)
  have HBL := Lib.hid (Below.refl w.heap.size w)
  have HR := Lib.hid H.out
  have hq := fun (W : World) => eql_nil_some (P := Try.prog) W 68 ⟨bx, 0, none⟩ Try.underlying68
  have hne : (binOp .neq 68 (.pointer (some ⟨bd, 0, none⟩)) (.pointer (some ⟨bb, 0, none⟩))).run Try.prog w = .ok (.bool false) w := by rw [HDB.out]; exact neq_self w bd
  go_wp2_with fail
  refine (entry_none HR.out HB.out HKB.out _ HLA.out).mono ?_
  rintro e w' ⟨rfl, rfl⟩
  obtain ⟨m, m2, O1, O2, l2, hmw⟩ := mvW_of HR.out HD.out HB.out HX.out HK.out HKB.out HXD.out HXB.out s ar HL.out HN1.out H40.out
  have HM := Lib.hid hmw
  have q1 := hmw.rdel
  have q2 := hmw.rupd
  have q3 := hmw.c10
  have q4 := hmw.c0
  have q5 : ∀ j, (((w.drewN j).putObj m O1).drew.putObj m2 O2).cell? ⟨bx, 1, none⟩ = some (.int .i64 nx.kind) := fun j => by rw [(HM.out.at_x HX.out HXD.out HXB.out 1 j).1]; rfl
  have c10d : w.cell? ⟨bd, 10, none⟩ = some (.map (some m)) := by rw [HR.out.c10 HD.out, HM.out.mpd]
  clear hmw
  go_wp2
  go_quiet (fail)
  go_wp2
  go_region
  go_wp2
  go_ret
  exact ⟨rfl, l2, HM.out.perm, by have e := fun j => HMB.out.trans ((HM.out.fin HX.out HXD.out HXB.out j).2 HKX.out); exact e _⟩
set_option maxRecDepth 100000 in
set_option maxHeartbeats 800000 in
theorem mv_oknd {w : World} {t bd bb : Nat} {S : Tab} {nd nb : Nd} (h : Rep w t S) (d b : Int) (hd : S d.toNat = some (bd, nd)) (hb : S b.toNat = some (bb, nb)) (s ar : ByteArray) (hkd : nd.kind = 1) (hkb : nb.kind = 1) {x bx : Nat} {nx : Nd} (hl : look nd.names s = some x) (hx : S x = some (bx, nx)) (hn : nameB ar = true) (hkx : nx.kind = 1) (hwi : Calls Try.prog 51 #[.pointer (some ⟨t, 0, none⟩), .pointer (some ⟨bb, 0, none⟩), .pointer (some ⟨bx, 0, none⟩)] w fun e w' => e = .returned (.bool false) ∧ Below w.heap.size w w') (hla : look nb.names ar = none) (hdb : d.toNat ≠ b.toNat) (hfu : nb.names.length < 40) (hxd : x ≠ d.toNat) (hxb : x ≠ b.toNat) {nb1 : Nd} (hnb1 : nb1 = (if b.toNat = d.toNat then { nd with names := delL nd.names s } else nb)) (h40 : (delL nb1.names ar).length < 40) :
    Calls Try.prog 24 #[.pointer (some ⟨t, 0, none⟩), .int .i64 d, .string s, .int .i64 b, .string ar] w fun e w' => e = .returned (.int .i64 0) ∧ ∃ l2 : List (ByteArray × Nat), l2.Perm ((ar, x) :: delL nb1.names ar) ∧ Mv w t S w' (movedS S d.toNat b.toNat x bd nd bb nb1 bx nx s l2) := by
  have c1 : w.cell? ⟨bd, 1, none⟩ = some (.int .i64 1) := by rw [h.c1 hd, hkd]
  have e1 : w.cell? ⟨bb, 1, none⟩ = some (.int .i64 1) := by rw [h.c1 hb, hkb]
  have HK := Lib.hid hkd
  have HKB := Lib.hid hkb
  have HL := Lib.hid hl
  have HX := Lib.hid hx
  have d1 : w.cell? ⟨bx, 1, none⟩ = some (.int .i64 1) := by rw [h.c1 hx, hkx]
  have HW := Lib.hid hwi
  have HKX := Lib.hid hkx
  have HLA := Lib.hid hla
  have HN1 := Lib.hid hnb1
  have HXD := Lib.hid hxd
  have HXB := Lib.hid hxb
  have H40 := Lib.hid h40
  have HBP : Hid (((b.toNat : Nat) : Int) = b) := Lib.hid (by have := h.rng _ _ hb; omega)
  obtain ⟨mb, hmb⟩ := h.dir_mp hb hkb
  have HMP := Lib.hid hmb
  have HDB : Hid (bd ≠ bb) := Lib.hid (fun e => hdb (h.inj _ _ _ _ _ (e ▸ hd) hb))
  have hn1 : (nb.names.length : Int) < 40 := by omega
  have H := Lib.hid h
  have HD := Lib.hid hd
  have HB := Lib.hid hb
  clear h hd hb hkd hkb hl hx hkx hwi hla hmb hdb hfu hxd hxb h40 hnb1
  go_enter Try.func24, Try.ntmps24
  go_wp2_with fail
  refine (pair_ok H.out _ _ HD.out HB.out).mono ?_
  rintro e w' ⟨rfl, rfl⟩
  go_wp2_with fail
  refine (entry_some H.out HD.out HK.out _ _ HL.out HX.out).mono ?_
  rintro e w' ⟨rfl, rfl⟩
  go_wp2_with fail
  refine (name_any _ _).mono ?_
  rintro e w' ⟨rfl, rfl⟩
  go_wp2_with fail
  refine HW.out.mono ?_
  rintro e wr ⟨rfl, hbl⟩
  have HMB := Lib.hid ((Mv.refl H.out).below hbl)
  have HBL := Lib.hid hbl
  clear hbl HW c1 e1 d1
  have HR := Lib.hid HMB.out.rep
  have d1 : wr.cell? ⟨bx, 1, none⟩ = some (.int .i64 1) := by rw [HR.out.c1 HX.out, HKX.out]
  have hq := fun (W : World) => eql_nil_some (P := Try.prog) W 68 ⟨bx, 0, none⟩ Try.underlying68
  have c10 : wr.cell? ⟨bb, 10, none⟩ = some (.map (some mb)) := by rw [HR.out.c10 HB.out, HMP.out]
  have hlen : ∀ ty, (Builtin.len_ #[84] ty #[.map (some mb)]).run Try.prog wr = .ok (.int .i64 nb.names.length) wr := fun ty => HMP.out ▸ HR.out.len HB.out ty
  have hne := neq_nodes (w := wr) (HR.out.node _ bd nd HD.out) (HR.out.node _ bb nb HB.out) HDB.out
  go_wp2_with fail
  refine (entry_none HR.out HB.out HKB.out _ HLA.out).mono ?_
  rintro e w' ⟨rfl, rfl⟩
  obtain ⟨m, m2, O1, O2, l2, hmw⟩ := mvW_of HR.out HD.out HB.out HX.out HK.out HKB.out HXD.out HXB.out s ar HL.out HN1.out H40.out
  have HM := Lib.hid hmw
  have q1 := hmw.rdel
  have q2 := hmw.rupd
  have q3 := hmw.c10
  have q4 := hmw.c0
  have q5 : ∀ j, (((wr.drewN j).putObj m O1).drew.putObj m2 O2).cell? ⟨bx, 1, none⟩ = some (.int .i64 1) := fun j => by rw [(HM.out.at_x HX.out HXD.out HXB.out 1 j).1]; show some (Value.int .i64 nx.kind) = _; rw [HKX.out]
  have q6 : ∀ j, (((wr.drewN j).putObj m O1).drew.putObj m2 O2).cell? ⟨bx, 11, none⟩ = some (.int .i64 (nx.parent : Int)) := fun j => (HM.out.at_x HX.out HXD.out HXB.out 11 j).1
  have q7 : ∀ j, (((wr.drewN j).putObj m O1).drew.putObj m2 O2).frozen? ⟨bx, 11, none⟩ = false := fun j => (HM.out.at_x HX.out HXD.out HXB.out 11 j).2
  have c10d : wr.cell? ⟨bd, 10, none⟩ = some (.map (some m)) := by rw [HR.out.c10 HD.out, HM.out.mpd]
  clear hmw
  go_wp2
  go_quiet (fail)
  go_wp2
  go_region
  go_wp2
  go_ret
  exact ⟨rfl, l2, HM.out.perm, by have e := fun j => HMB.out.trans ((HM.out.fin HX.out HXD.out HXB.out j).1 HKX.out); simp only [HBP.out] at e; exact e _⟩
set_option maxRecDepth 100000 in
set_option maxHeartbeats 800000 in
theorem mv_oknf {w : World} {t bd bb : Nat} {S : Tab} {nd nb : Nd} (h : Rep w t S) (d b : Int) (hd : S d.toNat = some (bd, nd)) (hb : S b.toNat = some (bb, nb)) (s ar : ByteArray) (hkd : nd.kind = 1) (hkb : nb.kind = 1) {x bx : Nat} {nx : Nd} (hl : look nd.names s = some x) (hx : S x = some (bx, nx)) (hn : nameB ar = true) (hkx : ¬ nx.kind = 1) (hla : look nb.names ar = none) (hdb : d.toNat ≠ b.toNat) (hfu : nb.names.length < 40) (hxd : x ≠ d.toNat) (hxb : x ≠ b.toNat) {nb1 : Nd} (hnb1 : nb1 = (if b.toNat = d.toNat then { nd with names := delL nd.names s } else nb)) (h40 : (delL nb1.names ar).length < 40) :
    Calls Try.prog 24 #[.pointer (some ⟨t, 0, none⟩), .int .i64 d, .string s, .int .i64 b, .string ar] w fun e w' => e = .returned (.int .i64 0) ∧ ∃ l2 : List (ByteArray × Nat), l2.Perm ((ar, x) :: delL nb1.names ar) ∧ Mv w t S w' (movedS S d.toNat b.toNat x bd nd bb nb1 bx nx s l2) := by
  have c1 : w.cell? ⟨bd, 1, none⟩ = some (.int .i64 1) := by rw [h.c1 hd, hkd]
  have e1 : w.cell? ⟨bb, 1, none⟩ = some (.int .i64 1) := by rw [h.c1 hb, hkb]
  have HK := Lib.hid hkd
  have HKB := Lib.hid hkb
  have HL := Lib.hid hl
  have HX := Lib.hid hx
  have d1 := h.c1 hx
  have hkxb : (nx.kind == 1) = false := by simpa using hkx
  have HKX := Lib.hid hkx
  have HLA := Lib.hid hla
  have HN1 := Lib.hid hnb1
  have HXD := Lib.hid hxd
  have HXB := Lib.hid hxb
  have H40 := Lib.hid h40
  have HBP : Hid (((b.toNat : Nat) : Int) = b) := Lib.hid (by have := h.rng _ _ hb; omega)
  obtain ⟨mb, hmb⟩ := h.dir_mp hb hkb
  have HMP := Lib.hid hmb
  have HDB : Hid (bd ≠ bb) := Lib.hid (fun e => hdb (h.inj _ _ _ _ _ (e ▸ hd) hb))
  have hn1 : (nb.names.length : Int) < 40 := by omega
  have H := Lib.hid h
  have HD := Lib.hid hd
  have HB := Lib.hid hb
  clear h hd hb hkd hkb hl hx hkx hla hmb hdb hfu hxd hxb h40 hnb1
  go_enter Try.func24, Try.ntmps24
  go_wp2_with fail
  refine (pair_ok H.out _ _ HD.out HB.out).mono ?_
  rintro e w' ⟨rfl, rfl⟩
  go_wp2_with fail
  refine (entry_some H.out HD.out HK.out _ _ HL.out HX.out).mono ?_
  rintro e w' ⟨rfl, rfl⟩
  go_wp2_with fail
  refine (name_any _ _).mono ?_
  rintro e w' ⟨rfl, rfl⟩
  have HMB := Lib.hid (Mv.refl H.out)
  have HBL := Lib.hid (Below.refl w.heap.size w)
  have HR := Lib.hid H.out
  have hq := fun (W : World) => eql_nil_some (P := Try.prog) W 68 ⟨bx, 0, none⟩ Try.underlying68
  have c10 : w.cell? ⟨bb, 10, none⟩ = some (.map (some mb)) := by rw [HR.out.c10 HB.out, HMP.out]
  have hlen : ∀ ty, (Builtin.len_ #[84] ty #[.map (some mb)]).run Try.prog w = .ok (.int .i64 nb.names.length) w := fun ty => HMP.out ▸ HR.out.len HB.out ty
  have hne := neq_nodes (w := w) (HR.out.node _ bd nd HD.out) (HR.out.node _ bb nb HB.out) HDB.out
  go_wp2_with fail
  refine (entry_none HR.out HB.out HKB.out _ HLA.out).mono ?_
  rintro e w' ⟨rfl, rfl⟩
  obtain ⟨m, m2, O1, O2, l2, hmw⟩ := mvW_of HR.out HD.out HB.out HX.out HK.out HKB.out HXD.out HXB.out s ar HL.out HN1.out H40.out
  have HM := Lib.hid hmw
  have q1 := hmw.rdel
  have q2 := hmw.rupd
  have q3 := hmw.c10
  have q4 := hmw.c0
  have q5 : ∀ j, (((w.drewN j).putObj m O1).drew.putObj m2 O2).cell? ⟨bx, 1, none⟩ = some (.int .i64 nx.kind) := fun j => by rw [(HM.out.at_x HX.out HXD.out HXB.out 1 j).1]; rfl
  have c10d : w.cell? ⟨bd, 10, none⟩ = some (.map (some m)) := by rw [HR.out.c10 HD.out, HM.out.mpd]
  clear hmw
  go_wp2
  go_quiet (fail)
  go_wp2
  go_region
  go_wp2
  go_ret
  exact ⟨rfl, l2, HM.out.perm, by have e := fun j => HMB.out.trans ((HM.out.fin HX.out HXD.out HXB.out j).2 HKX.out); exact e _⟩
set_option maxRecDepth 100000 in
set_option maxHeartbeats 800000 in
theorem mv_overd {w : World} {t bd bb : Nat} {S : Tab} {nd nb : Nd} (h : Rep w t S) (d b : Int) (hd : S d.toNat = some (bd, nd)) (hb : S b.toNat = some (bb, nb)) (s ar : ByteArray) (hkd : nd.kind = 1) (hkb : nb.kind = 1) {x bx : Nat} {nx : Nd} (hl : look nd.names s = some x) (hx : S x = some (bx, nx)) (hn : nameB ar = true) (hkx : nx.kind = 1) (hwi : Calls Try.prog 51 #[.pointer (some ⟨t, 0, none⟩), .pointer (some ⟨bb, 0, none⟩), .pointer (some ⟨bx, 0, none⟩)] w fun e w' => e = .returned (.bool false) ∧ Below w.heap.size w w') {y by_ : Nat} {ny : Nd} (hla : look nb.names ar = some y) (hy : S y = some (by_, ny)) (hyx : y ≠ x) (hxd : x ≠ d.toNat) (hxb : x ≠ b.toNat) {nb1 : Nd} (hnb1 : nb1 = (if b.toNat = d.toNat then { nd with names := delL nd.names s } else nb)) (h40 : (delL nb1.names ar).length < 40) (hny : ny.names = []) {Q : World → Prop} (hlo : ∀ (w1 : World) (l2 : List (ByteArray × Nat)), l2.Perm ((ar, x) :: delL nb1.names ar) → Mv w t S w1 (movedS S d.toNat b.toNat x bd nd bb nb1 bx nx s l2) → Calls Try.prog 53 #[.pointer (some ⟨t, 0, none⟩), .pointer (some ⟨by_, 0, none⟩)] w1 fun e w' => e = .returned (.tuple #[]) ∧ Q w') (hky : ny.kind = 1) :
    Calls Try.prog 24 #[.pointer (some ⟨t, 0, none⟩), .int .i64 d, .string s, .int .i64 b, .string ar] w fun e w' => e = .returned (.int .i64 0) ∧ Q w' := by
  have c1 : w.cell? ⟨bd, 1, none⟩ = some (.int .i64 1) := by rw [h.c1 hd, hkd]
  have e1 : w.cell? ⟨bb, 1, none⟩ = some (.int .i64 1) := by rw [h.c1 hb, hkb]
  have HK := Lib.hid hkd
  have HKB := Lib.hid hkb
  have HL := Lib.hid hl
  have HX := Lib.hid hx
  have d1 : w.cell? ⟨bx, 1, none⟩ = some (.int .i64 1) := by rw [h.c1 hx, hkx]
  have HW := Lib.hid hwi
  have HKX := Lib.hid hkx
  have HLA := Lib.hid hla
  have HY := Lib.hid hy
  have HYX : Hid (by_ ≠ bx) := Lib.hid (fun e => hyx (h.inj _ _ _ _ _ (e ▸ hy) hx))
  have HN1 := Lib.hid hnb1
  have HXD := Lib.hid hxd
  have HXB := Lib.hid hxb
  have H40 := Lib.hid h40
  have HBP : Hid (((b.toNat : Nat) : Int) = b) := Lib.hid (by have := h.rng _ _ hb; omega)
  have HKY := Lib.hid hky
  have HNY := Lib.hid hny
  have HLO := Lib.hid hlo
  have H := Lib.hid h
  have HD := Lib.hid hd
  have HB := Lib.hid hb
  clear h hd hb hkd hkb hl hx hkx hwi hla hy hyx hky hny hlo hxd hxb h40 hnb1
  go_enter Try.func24, Try.ntmps24
  go_wp2_with fail
  refine (pair_ok H.out _ _ HD.out HB.out).mono ?_
  rintro e w' ⟨rfl, rfl⟩
  go_wp2_with fail
  refine (entry_some H.out HD.out HK.out _ _ HL.out HX.out).mono ?_
  rintro e w' ⟨rfl, rfl⟩
  go_wp2_with fail
  refine (name_any _ _).mono ?_
  rintro e w' ⟨rfl, rfl⟩
  go_wp2_with fail
  refine HW.out.mono ?_
  rintro e wr ⟨rfl, hbl⟩
  have HMB := Lib.hid ((Mv.refl H.out).below hbl)
  have HBL := Lib.hid hbl
  clear hbl HW c1 e1 d1
  have HR := Lib.hid HMB.out.rep
  have d1 : wr.cell? ⟨bx, 1, none⟩ = some (.int .i64 1) := by rw [HR.out.c1 HX.out, HKX.out]
  have hq := eql_nodes (w := wr) (HR.out.node _ by_ ny HY.out) (HR.out.node _ bx nx HX.out) HYX.out
  have g1 : wr.cell? ⟨by_, 1, none⟩ = some (.int .i64 1) := by rw [HR.out.c1 HY.out, HKY.out]
  have g10 := HR.out.c10 HY.out
  have hleny : ∀ j ty, (Builtin.len_ #[84] ty #[.map ny.mp]).run Try.prog (wr.drewN j) = .ok (.int .i64 0) (wr.drewN j) := fun j ty => by have e := (HR.out.drewN j).len HY.out ty; rw [HNY.out] at e; exact e
  go_wp2_with fail
  refine (entry_some HR.out HB.out HKB.out _ _ HLA.out HY.out).mono ?_
  rintro e w' ⟨rfl, rfl⟩
  obtain ⟨m, m2, O1, O2, l2, hmw⟩ := mvW_of HR.out HD.out HB.out HX.out HK.out HKB.out HXD.out HXB.out s ar HL.out HN1.out H40.out
  have HM := Lib.hid hmw
  have q1 := hmw.rdel
  have q2 := hmw.rupd
  have q3 := hmw.c10
  have q4 := hmw.c0
  have q5 : ∀ j, (((wr.drewN j).putObj m O1).drew.putObj m2 O2).cell? ⟨bx, 1, none⟩ = some (.int .i64 1) := fun j => by rw [(HM.out.at_x HX.out HXD.out HXB.out 1 j).1]; show some (Value.int .i64 nx.kind) = _; rw [HKX.out]
  have q6 : ∀ j, (((wr.drewN j).putObj m O1).drew.putObj m2 O2).cell? ⟨bx, 11, none⟩ = some (.int .i64 (nx.parent : Int)) := fun j => (HM.out.at_x HX.out HXD.out HXB.out 11 j).1
  have q7 : ∀ j, (((wr.drewN j).putObj m O1).drew.putObj m2 O2).frozen? ⟨bx, 11, none⟩ = false := fun j => (HM.out.at_x HX.out HXD.out HXB.out 11 j).2
  have c10d : wr.cell? ⟨bd, 10, none⟩ = some (.map (some m)) := by rw [HR.out.c10 HD.out, HM.out.mpd]
  clear hmw
  have hcall := fun j => HLO.out _ l2 HM.out.perm (by have e := HMB.out.trans ((HM.out.fin HX.out HXD.out HXB.out j).1 HKX.out); rw [HBP.out] at e; exact e)
  have HCA := Lib.hid hcall
  clear hcall
  go_wp2
  go_quiet (fail)
  go_wp2
  go_region
  go_wp2_with fail
  refine (HCA.out _).mono ?_
  rintro e w' ⟨rfl, hq⟩
  have HQ := Lib.hid hq
  clear hq
  go_wp2
  go_ret
  exact ⟨rfl, HQ.out⟩
set_option maxRecDepth 100000 in
set_option maxHeartbeats 800000 in
theorem mv_overf {w : World} {t bd bb : Nat} {S : Tab} {nd nb : Nd} (h : Rep w t S) (d b : Int) (hd : S d.toNat = some (bd, nd)) (hb : S b.toNat = some (bb, nb)) (s ar : ByteArray) (hkd : nd.kind = 1) (hkb : nb.kind = 1) {x bx : Nat} {nx : Nd} (hl : look nd.names s = some x) (hx : S x = some (bx, nx)) (hn : nameB ar = true) (hkx : ¬ nx.kind = 1) {y by_ : Nat} {ny : Nd} (hla : look nb.names ar = some y) (hy : S y = some (by_, ny)) (hyx : y ≠ x) (hxd : x ≠ d.toNat) (hxb : x ≠ b.toNat) {nb1 : Nd} (hnb1 : nb1 = (if b.toNat = d.toNat then { nd with names := delL nd.names s } else nb)) (h40 : (delL nb1.names ar).length < 40) (hny : ny.names = []) {Q : World → Prop} (hlo : ∀ (w1 : World) (l2 : List (ByteArray × Nat)), l2.Perm ((ar, x) :: delL nb1.names ar) → Mv w t S w1 (movedS S d.toNat b.toNat x bd nd bb nb1 bx nx s l2) → Calls Try.prog 53 #[.pointer (some ⟨t, 0, none⟩), .pointer (some ⟨by_, 0, none⟩)] w1 fun e w' => e = .returned (.tuple #[]) ∧ Q w') (hky : ¬ ny.kind = 1) :
    Calls Try.prog 24 #[.pointer (some ⟨t, 0, none⟩), .int .i64 d, .string s, .int .i64 b, .string ar] w fun e w' => e = .returned (.int .i64 0) ∧ Q w' := by
  have c1 : w.cell? ⟨bd, 1, none⟩ = some (.int .i64 1) := by rw [h.c1 hd, hkd]
  have e1 : w.cell? ⟨bb, 1, none⟩ = some (.int .i64 1) := by rw [h.c1 hb, hkb]
  have HK := Lib.hid hkd
  have HKB := Lib.hid hkb
  have HL := Lib.hid hl
  have HX := Lib.hid hx
  have d1 := h.c1 hx
  have hkxb : (nx.kind == 1) = false := by simpa using hkx
  have HKX := Lib.hid hkx
  have HLA := Lib.hid hla
  have HY := Lib.hid hy
  have HYX : Hid (by_ ≠ bx) := Lib.hid (fun e => hyx (h.inj _ _ _ _ _ (e ▸ hy) hx))
  have HN1 := Lib.hid hnb1
  have HXD := Lib.hid hxd
  have HXB := Lib.hid hxb
  have H40 := Lib.hid h40
  have HBP : Hid (((b.toNat : Nat) : Int) = b) := Lib.hid (by have := h.rng _ _ hb; omega)
  have HKY := Lib.hid hky
  have HNY := Lib.hid hny
  have HLO := Lib.hid hlo
  have H := Lib.hid h
  have HD := Lib.hid hd
  have HB := Lib.hid hb
  clear h hd hb hkd hkb hl hx hkx hla hy hyx hky hny hlo hxd hxb h40 hnb1
  go_enter Try.func24, Try.ntmps24
  go_wp2_with fail
  refine (pair_ok H.out _ _ HD.out HB.out).mono ?_
  rintro e w' ⟨rfl, rfl⟩
  go_wp2_with fail
  refine (entry_some H.out HD.out HK.out _ _ HL.out HX.out).mono ?_
  rintro e w' ⟨rfl, rfl⟩
  go_wp2_with fail
  refine (name_any _ _).mono ?_
  rintro e w' ⟨rfl, rfl⟩
  have HMB := Lib.hid (Mv.refl H.out)
  have HBL := Lib.hid (Below.refl w.heap.size w)
  have HR := Lib.hid H.out
  have hq := eql_nodes (w := w) (HR.out.node _ by_ ny HY.out) (HR.out.node _ bx nx HX.out) HYX.out
  have g1 := HR.out.c1 HY.out
  have hkyb : (ny.kind == 1) = false := by have := HKY.out; simpa using this
  have g10 := HR.out.c10 HY.out
  have hleny : ∀ j ty, (Builtin.len_ #[84] ty #[.map ny.mp]).run Try.prog (w.drewN j) = .ok (.int .i64 0) (w.drewN j) := fun j ty => by have e := (HR.out.drewN j).len HY.out ty; rw [HNY.out] at e; exact e
  go_wp2_with fail
  refine (entry_some HR.out HB.out HKB.out _ _ HLA.out HY.out).mono ?_
  rintro e w' ⟨rfl, rfl⟩
  obtain ⟨m, m2, O1, O2, l2, hmw⟩ := mvW_of HR.out HD.out HB.out HX.out HK.out HKB.out HXD.out HXB.out s ar HL.out HN1.out H40.out
  have HM := Lib.hid hmw
  have q1 := hmw.rdel
  have q2 := hmw.rupd
  have q3 := hmw.c10
  have q4 := hmw.c0
  have q5 : ∀ j, (((w.drewN j).putObj m O1).drew.putObj m2 O2).cell? ⟨bx, 1, none⟩ = some (.int .i64 nx.kind) := fun j => by rw [(HM.out.at_x HX.out HXD.out HXB.out 1 j).1]; rfl
  have c10d : w.cell? ⟨bd, 10, none⟩ = some (.map (some m)) := by rw [HR.out.c10 HD.out, HM.out.mpd]
  clear hmw
  have hcall := fun j => HLO.out _ l2 HM.out.perm (by have e := HMB.out.trans ((HM.out.fin HX.out HXD.out HXB.out j).2 HKX.out); exact e)
  have HCA := Lib.hid hcall
  clear hcall
  go_wp2
  go_quiet (fail)
  go_wp2
  go_region
  go_wp2_with fail
  refine (HCA.out _).mono ?_
  rintro e w' ⟨rfl, hq⟩
  have HQ := Lib.hid hq
  clear hq
  go_wp2
  go_ret
  exact ⟨rfl, HQ.out⟩
end Go.Proofs.Ytafonmnfeibaiaa
namespace Go.Proofs.Ytafonmnfeibaiaa
open Go.RowKit

/-! ### Move, in plain words -/
theorem delL_len {l : List (ByteArray × Nat)} (h : (l.map (·.1)).Nodup) {s : ByteArray} {x : Nat} (hl : look l s = some x) : (delL l s).length + 1 = l.length := by
  obtain ⟨j, _, hj, hd, _⟩ := findNow_some_of s x ((entVals l).map fun p => ⟨p.1, p.2, 0⟩) l 0 (by simp [entVals]) hl
  have hj' : j < l.length := by simpa [entVals] using hj
  rw [← hd, List.length_eraseIdx, if_pos hj']
  omega
theorem delL_none {l : List (ByteArray × Nat)} {s : ByteArray} (hl : look l s = none) : delL l s = l := by
  simp only [look, Option.map_eq_none_iff, List.find?_eq_none] at hl
  exact List.eraseP_of_forall_not (fun p hp => by simpa using hl p hp)
theorem delL_le (l : List (ByteArray × Nat)) (s : ByteArray) : (delL l s).length ≤ l.length := List.length_eraseP_le
theorem delL_nodup {l : List (ByteArray × Nat)} (h : (l.map (·.1)).Nodup) (s : ByteArray) : ((delL l s).map (·.1)).Nodup :=
  List.Nodup.sublist (List.eraseP_sublist.map _) h
theorem ents_perm {l l' : List (ByteArray × Nat)} (h : l.Perm l') : (ents l).Perm (ents l') := h.map _

section
variable {w : World} {t : Nat} {S : Tab} {T : IT.Tr} (h : Tre w t S T) {d b x bd bb bx : Nat} {nd nb nx : Nd} {n q m : IT.Nd} (hd : S d = some (bd, nd)) (hb : S b = some (bb, nb)) (hx : S x = some (bx, nx)) (hT : T d = some n) (hQ : T b = some q) (hX : T x = some m)
variable {s ar : ByteArray} (hne : x ≠ d) (hxb : x ≠ b) (hf : IT.findN (bs s) n.names = some x) {nb1 : Nd} (hnb1 : nb1 = if b = d then { nd with names := delL nd.names s } else nb)
include h hd hb hx hT hQ hX hne hxb hf hnb1
/-- How the memory ties to the tree without the entry, the loss pending. -/
theorem moved_tie1 : IT.Ties (IT.updK (kpOf S) d (some { kp nd with names := ents (delL nd.names s) })) (IT.delT T d x (bs s) n m) (fun y => IT.calm y + IT.single x y) ∧
    IT.updK (kpOf S) d (some { kp nd with names := ents (delL nd.names s) }) b = some (kp nb1) ∧ IT.updK (kpOf S) d (some { kp nd with names := ents (delL nd.names s) }) x = some (kp nx) := by
  have _ := hQ
  have _ := hxb
  have hrd := (h.snd.1.rng _ n hT).2
  have hrx := (h.snd.1.rng _ m hX).2
  refine ⟨h.ties.delP hT hX hne hrd hrx (h.snd.1.ord _ n hT) hf (kpOf_some hd) (ents (delL nd.names s)) (by rw [ents_del s (h.rep.nodup hd)]; exact List.Perm.refl _), ?_, ?_⟩
  · by_cases e : b = d
    · rw [if_pos e] at hnb1
      subst e
      rw [IT.updK_same, hnb1]; rfl
    · rw [if_neg e] at hnb1
      rw [IT.updK_other _ _ e, hnb1]; exact kpOf_some hb
  · rw [IT.updK_other _ _ hne]; exact kpOf_some hx
theorem kpOf_moved (l2 : List (ByteArray × Nat)) : kpOf (movedS S d b x bd nd bb nb1 bx nx s l2) = IT.updK (IT.updK (IT.updK (kpOf S) d (some { kp nd with names := ents (delL nd.names s) })) x (some { kp nx with parent := if (kp nx).kind = 1 then b else (kp nx).parent })) b (some { kp nb1 with names := ents l2 }) := by
  have _ := h
  have _ := hd
  have _ := hb
  have _ := hx
  have _ := hT
  have _ := hQ
  have _ := hX
  have _ := hne
  have _ := hf
  have _ := hnb1
  unfold movedS
  rw [kpOf_upd, kpOf_upd, kpOf_upd, IT.updK_comm _ (Ne.symm hxb)]
  rfl
/-- To where there was none of that name. -/
theorem moved_none {q1 : IT.Nd} (hq1 : IT.delT T d x (bs s) n m b = some q1) {l2 : List (ByteArray × Nat)} (hl2 : l2.Perm ((ar, x) :: delL nb1.names ar)) (hno : look nb1.names ar = none) :
    IT.Ties (kpOf (movedS S d b x bd nd bb nb1 bx nx s l2)) (IT.entT (IT.delT T d x (bs s) n m) b x (bs ar) q1 (IT.alone x m)) IT.calm := by
  obtain ⟨h1, h2, h3⟩ := moved_tie1 h hd hb hx hT hQ hX hne hxb hf hnb1
  rw [kpOf_moved h hd hb hx hT hQ hX hne hxb hf hnb1]
  refine h1.entP rfl hq1 (IT.del_at_x hne) hxb (h.snd.1.rng _ q hQ).2 (h.snd.1.rng _ m hX).2 h2 h3 (ents l2) ?_
  have e := ents_perm hl2
  rw [delL_none hno] at e
  exact e
/-- Over another one. -/
theorem moved_over {w1 : Nat} {mw q1 : IT.Nd} (hq1 : IT.delT T d x (bs s) n m b = some q1) (hwS : IT.delT T d x (bs s) n m w1 = some mw) (hwb : w1 ≠ b) (hwx : w1 ≠ x) (hw2 : w1 ≤ 200) (ho : IT.Ord q1.names) (hfq : IT.findN (bs ar) q1.names = some w1) {l2 : List (ByteArray × Nat)} (hl2 : l2.Perm ((ar, x) :: delL nb1.names ar)) (hnd : (nb1.names.map (·.1)).Nodup) :
    IT.Ties (kpOf (movedS S d b x bd nd bb nb1 bx nx s l2)) (IT.entT (IT.delT (IT.delT T d x (bs s) n m) b w1 (bs ar) q1 mw) b x (bs ar) { q1 with names := IT.delN (bs ar) q1.names } (IT.alone x m)) (IT.single w1) := by
  obtain ⟨h1, h2, h3⟩ := moved_tie1 h hd hb hx hT hQ hX hne hxb hf hnb1
  have hb2 := (h.snd.1.rng _ q hQ).2
  have hx2 := (h.snd.1.rng _ m hX).2
  have g1 := h1.delP (nm := bs ar) hq1 hwS hwb hb2 hw2 ho hfq h2 (ents (delL nb1.names ar)) (by rw [ents_del ar hnd]; exact List.Perm.refl _)
  rw [kpOf_moved h hd hb hx hT hQ hX hne hxb hf hnb1]
  have e : (fun y => (IT.calm y + IT.single x y) + IT.single w1 y) = fun y => IT.single w1 y + IT.single x y := by
    funext y
    show (0 + IT.single x y) + IT.single w1 y = _
    omega
  rw [e] at g1
  have g2 := g1.entP (d := b) (nm := bs ar) (IT.single_other (Ne.symm hwx)) IT.del_at_d (show IT.delT (IT.delT T d x (bs s) n m) b w1 (bs ar) q1 mw x = some (IT.alone x m) by rw [IT.del_at hxb (Ne.symm hwx)]; exact IT.del_at_x hne) hxb hb2 hx2 (IT.updK_same _ _ _) (by rw [IT.updK_other _ _ hxb]; exact h3) (ents l2) (ents_perm hl2)
  rw [IT.updK_comm _ (Ne.symm hxb), IT.updK_twice] at g2
  exact g2
end

open Classical in
theorem move_any {w : World} {t : Nat} {S : Tab} {T : IT.Tr} (h : Tre w t S T) (d b : Int) (s ar : ByteArray) :
    Calls Try.prog 24 #[.pointer (some ⟨t, 0, none⟩), .int .i64 d, .string s, .int .i64 b, .string ar] w fun e w' => ∃ r, e = .returned (.int .i64 r) ∧ Stp w t S (fun T' => IT.isMove okN T d.toNat (bs s) b.toNat (bs ar) r T') w' := by
  have hstay : ∀ {r : Int} {e : Ending} {w' : World}, IT.isMove okN T d.toNat (bs s) b.toNat (bs ar) r T → e = .returned (.int .i64 r) ∧ w = w' → ∃ r, e = .returned (.int .i64 r) ∧ Stp w t S (fun T' => IT.isMove okN T d.toNat (bs s) b.toNat (bs ar) r T') w' := by
    rintro r e w' hr ⟨rfl, rfl⟩
    exact ⟨r, rfl, Stp.keep h hr⟩
  have hstayB : ∀ {r : Int} {e : Ending} {w' : World}, IT.isMove okN T d.toNat (bs s) b.toNat (bs ar) r T → e = .returned (.int .i64 r) ∧ Below w.heap.size w w' → ∃ r, e = .returned (.int .i64 r) ∧ Stp w t S (fun T' => IT.isMove okN T d.toNat (bs s) b.toNat (bs ar) r T') w' := by
    rintro r e w' hr ⟨rfl, hb⟩
    exact ⟨r, rfl, Stp.keepB h hb hr⟩
  cases hd : S d.toNat with
  | none =>
    refine (mv_no h.rep d b s ar (.inl hd)).mono fun e w' => hstay ?_
    unfold IT.isMove; rw [(h.none_iff _).1 hd]; exact ⟨rfl, rfl⟩
  | some p1 =>
    obtain ⟨bd, nd⟩ := p1
    obtain ⟨n, hT, hkp⟩ := h.get hd
    cases hb : S b.toNat with
    | none =>
      refine (mv_no h.rep d b s ar (.inr hb)).mono fun e w' => hstay ?_
      unfold IT.isMove; rw [hT, (h.none_iff _).1 hb]; exact ⟨rfl, rfl⟩
    | some p2 =>
      obtain ⟨bb, nb⟩ := p2
      obtain ⟨q, hQ, hkq⟩ := h.get hb
      have hkd : nd.kind = n.kind := hkp.kind
      have hkb : nb.kind = q.kind := hkq.kind
      by_cases h1 : n.kind = 1
      case neg =>
        refine (mv_kind1 h.rep d b hd hb s ar (by rw [hkd]; exact h1)).mono fun e w' => hstay ?_
        unfold IT.isMove; rw [hT, hQ]; dsimp only; rw [if_pos (.inl h1)]; exact ⟨rfl, rfl⟩
      by_cases h2 : q.kind = 1
      case neg =>
        refine (mv_kind2 h.rep d b hd hb s ar (by rw [hkd]; exact h1) (by rw [hkb]; exact h2)).mono fun e w' => hstay ?_
        unfold IT.isMove; rw [hT, hQ]; dsimp only; rw [if_pos (.inr h2)]; exact ⟨rfl, rfl⟩
      have hkd1 := hkd.trans h1
      have hkb1 := hkb.trans h2
      have hk12 : ¬ (n.kind ≠ 1 ∨ q.kind ≠ 1) := by rintro (a | a); exact a h1; exact a h2
      have hlo := h.look hd hT s
      cases hl : look nd.names s with
      | none =>
        refine (mv_noent h.rep d b hd hb s ar hkd1 hkb1 hl).mono fun e w' => hstay ?_
        unfold IT.isMove; rw [hT, hQ]; dsimp only; rw [if_neg hk12, ← hlo, hl]; exact ⟨rfl, rfl⟩
      | some x =>
        have hfn : IT.findN (bs s) n.names = some x := by rw [← hlo]; exact hl
        obtain ⟨m, hX⟩ := h.snd.1.lead _ n (bs s, x) hT (IT.find_mem hfn)
        obtain ⟨bx, nx, hx, hkx⟩ := h.back hX
        have hkxx : nx.kind = m.kind := hkx.kind
        have pre : ∀ {r : Int} {T' : IT.Tr}, (if okN (bs ar) = false then r = 1 ∧ T' = T
            else if m.kind = 1 ∧ IT.Bel T x b.toNat then r = 8 ∧ T' = T
            else match IT.findN (bs ar) q.names with
              | none =>
                if d.toNat ≠ b.toNat ∧ q.names.length ≥ 40 then r = 9 ∧ T' = T
                else r = 0 ∧ ∃ q1 m1, IT.delT T d.toNat x (bs s) n m b.toNat = some q1 ∧ IT.delT T d.toNat x (bs s) n m x = some m1 ∧ T' = IT.entT (IT.delT T d.toNat x (bs s) n m) b.toNat x (bs ar) q1 m1
              | some w => if w = x then r = 0 ∧ T' = T
                else ∃ mw, T w = some mw ∧
                  if ¬ (mw.kind = 1 ↔ m.kind = 1) then r = 7 ∧ T' = T
                  else if mw.names ≠ [] then r = 8 ∧ T' = T
                  else r = 0 ∧ ∃ q1 q2 m2, IT.delT T d.toNat x (bs s) n m b.toNat = some q1 ∧ IT.delT (IT.delT T d.toNat x (bs s) n m) b.toNat w (bs ar) q1 mw b.toNat = some q2 ∧ IT.delT (IT.delT T d.toNat x (bs s) n m) b.toNat w (bs ar) q1 mw x = some m2 ∧ IT.NF (IT.entT (IT.delT (IT.delT T d.toNat x (bs s) n m) b.toNat w (bs ar) q1 mw) b.toNat x (bs ar) q2 m2) T') →
            IT.isMove okN T d.toNat (bs s) b.toNat (bs ar) r T' := by
          intro r T' hh
          unfold IT.isMove; rw [hT, hQ]; dsimp only; rw [if_neg hk12, hfn]
          exact ⟨m, hX, hh⟩
        by_cases h3 : nameB ar = true
        case neg =>
          have h3 : nameB ar = false := by simpa using h3
          refine (mv_noname h.rep d b hd hb s ar hkd1 hkb1 hl hx h3).mono fun e w' => hstay (pre ?_)
          rw [if_pos (by rw [← nameB_ok]; exact h3)]; exact ⟨rfl, rfl⟩
        have hok : okN (bs ar) = true := by rw [← nameB_ok]; exact h3
        have hokn : ¬ okN (bs ar) = false := by rw [hok]; intro e; cases e
        by_cases h4 : m.kind = 1 ∧ IT.Bel T x b.toNat
        · have hwi := (within_any h hb hx hQ h2).mono (R' := fun e w' => e = .returned (.bool true) ∧ Below w.heap.size w w') (by
            rintro e w' ⟨r, rfl, hr, hbl⟩
            exact ⟨by rw [hr.2 h4.2], hbl⟩)
          refine (mv_in h.rep d b hd hb s ar hkd1 hkb1 hl hx h3 (hkxx.trans h4.1) hwi).mono fun e w' => hstayB (pre ?_)
          rw [if_neg hokn, if_pos h4]; exact ⟨rfl, rfl⟩
        have hwi : m.kind = 1 → Calls Try.prog 51 #[.pointer (some ⟨t, 0, none⟩), .pointer (some ⟨bb, 0, none⟩), .pointer (some ⟨bx, 0, none⟩)] w fun e w' => e = .returned (.bool false) ∧ Below w.heap.size w w' := fun hmk =>
          (within_any h hb hx hQ h2).mono (by
            rintro e w' ⟨r, rfl, hr, hbl⟩
            cases r with
            | true => exact absurd ⟨hmk, hr.1 rfl⟩ h4
            | false => exact ⟨rfl, hbl⟩)
        have hlq := h.look hb hQ ar
        obtain ⟨hne, hxb, hx1⟩ := IT.move_ne h.snd hT hQ h1 h2 hfn hX hok h4
        cases hla : look nb.names ar with
        | none =>
          have hfa : IT.findN (bs ar) q.names = none := by rw [← hlq]; exact hla
          have hlen := names_nil hkq.names
          by_cases h5 : d.toNat ≠ b.toNat ∧ q.names.length ≥ 40
          · have fin := pre (r := 9) (T' := T) (by rw [if_neg hokn, if_neg h4, hfa]; dsimp only; rw [if_pos h5]; exact ⟨rfl, rfl⟩)
            by_cases hk : m.kind = 1
            · exact (mv_fulld h.rep d b hd hb s ar hkd1 hkb1 hl hx h3 (hkxx.trans hk) (hwi hk) hla h5.1 (by omega)).mono fun e w' => hstayB fin
            · exact (mv_fullf h.rep d b hd hb s ar hkd1 hkb1 hl hx h3 (by rw [hkxx]; exact hk) hla h5.1 (by omega)).mono fun e w' => hstayB fin
          · obtain ⟨q1, hq1, _, _⟩ := IT.move_q h.snd hT hQ h1 h2 hfn hX hok h4
            obtain ⟨nb1, hnb1⟩ : ∃ nb1 : Nd, nb1 = if b.toNat = d.toNat then { nd with names := delL nd.names s } else nb := ⟨_, rfl⟩
            have hnd1 : (nd.names.map (·.1)).Nodup := h.rep.nodup hd
            have hno : look nb1.names ar = none ∧ nb1.names.length < 40 := by
              by_cases e : b.toNat = d.toNat
              · rw [if_pos e] at hnb1
                rw [e, hd] at hb
                obtain ⟨_, rfl⟩ := Prod.mk.inj (Option.some.inj hb)
                rw [hnb1]
                show look (delL nd.names s) ar = none ∧ (delL nd.names s).length < 40
                have h40 := (h.rep.small _ _ _ hd).2
                refine ⟨?_, by have := delL_len hnd1 hl; omega⟩
                simp only [look, Option.map_eq_none_iff, List.find?_eq_none] at hla ⊢
                exact fun p hp => hla p (List.eraseP_sublist.subset hp)
              · rw [if_neg e] at hnb1
                rw [hnb1]
                exact ⟨hla, by have : ¬ q.names.length ≥ 40 := fun a => h5 ⟨fun e2 => e e2.symm, a⟩; omega⟩
            have h40 : (delL nb1.names ar).length < 40 := by rw [delL_none hno.1]; exact hno.2
            have fin : ∀ {e : Ending} {w' : World}, (e = .returned (.int .i64 0) ∧ ∃ l2 : List (ByteArray × Nat), l2.Perm ((ar, x) :: delL nb1.names ar) ∧ Mv w t S w' (movedS S d.toNat b.toNat x bd nd bb nb1 bx nx s l2)) → ∃ r, e = .returned (.int .i64 r) ∧ Stp w t S (fun T' => IT.isMove okN T d.toNat (bs s) b.toNat (bs ar) r T') w' := by
              rintro e w' ⟨rfl, l2, hl2, hmv⟩
              refine ⟨0, rfl, _, _, hmv, moved_none h hd hb hx hT hQ hX hne hxb hfn hnb1 hq1 hl2 hno.1, pre ?_⟩
              rw [if_neg hokn, if_neg h4, hfa]; dsimp only; rw [if_neg h5]
              exact ⟨rfl, q1, IT.alone x m, hq1, IT.del_at_x hne, rfl⟩
            by_cases hdb : d.toNat = b.toNat
            · by_cases hk : m.kind = 1
              · exact (mv_oksd h.rep d b hd hb s ar hkd1 hkb1 hl hx h3 (hkxx.trans hk) (hwi hk) hla hdb hne hxb hnb1 h40).mono fun e w' => fin
              · exact (mv_oksf h.rep d b hd hb s ar hkd1 hkb1 hl hx h3 (by rw [hkxx]; exact hk) hla hdb hne hxb hnb1 h40).mono fun e w' => fin
            · have hfu : nb.names.length < 40 := by
                have : ¬ q.names.length ≥ 40 := fun a => h5 ⟨hdb, a⟩
                omega
              by_cases hk : m.kind = 1
              · exact (mv_oknd h.rep d b hd hb s ar hkd1 hkb1 hl hx h3 (hkxx.trans hk) (hwi hk) hla hdb hfu hne hxb hnb1 h40).mono fun e w' => fin
              · exact (mv_oknf h.rep d b hd hb s ar hkd1 hkb1 hl hx h3 (by rw [hkxx]; exact hk) hla hdb hfu hne hxb hnb1 h40).mono fun e w' => fin
        | some y =>
          have hfa : IT.findN (bs ar) q.names = some y := by rw [← hlq]; exact hla
          by_cases hyx : y = x
          · subst hyx
            have fin := pre (r := 0) (T' := T) (by rw [if_neg hokn, if_neg h4, hfa]; dsimp only; rw [if_pos rfl]; exact ⟨rfl, rfl⟩)
            by_cases hk : m.kind = 1
            · exact (mv_samed h.rep d b hd hb s ar hkd1 hkb1 hl hx h3 (hkxx.trans hk) (hwi hk) hla).mono fun e w' => hstayB fin
            · exact (mv_samef h.rep d b hd hb s ar hkd1 hkb1 hl hx h3 (by rw [hkxx]; exact hk) hla).mono fun e w' => hstayB fin
          · obtain ⟨my, hY⟩ := h.snd.1.lead _ q (bs ar, y) hQ (IT.find_mem hfa)
            obtain ⟨by_, ny, hy, hky⟩ := h.back hY
            have hkyy : ny.kind = my.kind := hky.kind
            have hleny := names_nil hky.names
            have pre2 : ∀ {r : Int} {T' : IT.Tr}, (if ¬ (my.kind = 1 ↔ m.kind = 1) then r = 7 ∧ T' = T
                  else if my.names ≠ [] then r = 8 ∧ T' = T
                  else r = 0 ∧ ∃ q1 q2 m2, IT.delT T d.toNat x (bs s) n m b.toNat = some q1 ∧ IT.delT (IT.delT T d.toNat x (bs s) n m) b.toNat y (bs ar) q1 my b.toNat = some q2 ∧ IT.delT (IT.delT T d.toNat x (bs s) n m) b.toNat y (bs ar) q1 my x = some m2 ∧ IT.NF (IT.entT (IT.delT (IT.delT T d.toNat x (bs s) n m) b.toNat y (bs ar) q1 my) b.toNat x (bs ar) q2 m2) T') →
                IT.isMove okN T d.toNat (bs s) b.toNat (bs ar) r T' := by
              intro r T' hh
              refine pre ?_
              rw [if_neg hokn, if_neg h4, hfa]; dsimp only; rw [if_neg hyx]
              exact ⟨my, hY, hh⟩
            by_cases hkk : my.kind = 1 ↔ m.kind = 1
            case neg =>
              have fin := pre2 (r := 7) (T' := T) (by rw [if_pos hkk]; exact ⟨rfl, rfl⟩)
              by_cases hk : m.kind = 1
              · exact (mv_kindsd h.rep d b hd hb s ar hkd1 hkb1 hl hx h3 (hkxx.trans hk) (hwi hk) hla hy hyx (by rw [hkyy]; exact fun a => hkk ⟨fun _ => hk, fun _ => a⟩)).mono fun e w' => hstayB fin
              · exact (mv_kindsf h.rep d b hd hb s ar hkd1 hkb1 hl hx h3 (by rw [hkxx]; exact hk) hla hy hyx (by
                  rw [hkyy]
                  exact Decidable.byContradiction fun a => hkk ⟨fun c => absurd c a, fun c => absurd c hk⟩)).mono fun e w' => hstayB fin
            by_cases hemp : my.names = []
            case neg =>
              have fin := pre2 (r := 8) (T' := T) (by rw [if_neg (fun a => a hkk), if_pos hemp]; exact ⟨rfl, rfl⟩)
              have hpos : 0 < ny.names.length := by
                rw [hleny]
                cases hmn : my.names with
                | nil => exact absurd hmn hemp
                | cons => simp
              by_cases hk : m.kind = 1
              · exact (mv_busyd h.rep d b hd hb s ar hkd1 hkb1 hl hx h3 (hkxx.trans hk) (hwi hk) hla hy hyx hpos (hkyy.trans (hkk.2 hk))).mono fun e w' => hstayB fin
              · exact (mv_busyf h.rep d b hd hb s ar hkd1 hkb1 hl hx h3 (by rw [hkxx]; exact hk) hla hy hyx hpos (by rw [hkyy]; exact fun a => hk (hkk.1 a))).mono fun e w' => hstayB fin
            have hnye : ny.names = [] := List.eq_nil_of_length_eq_zero (by rw [hleny, hemp]; rfl)
            obtain ⟨q1, hq1, hq1k, hq1e, hfq, hyb, hyd, hY1, s1, s3, hcan, hlnk⟩ := IT.move_over h.snd hT hQ h1 h2 hfn hX hok h4 hfa hyx hY hemp
            obtain ⟨nb1, hnb1⟩ : ∃ nb1 : Nd, nb1 = if b.toNat = d.toNat then { nd with names := delL nd.names s } else nb := ⟨_, rfl⟩
            have hnd1 : (nb1.names.map (·.1)).Nodup := by
              by_cases e : b.toNat = d.toNat
              · rw [if_pos e] at hnb1; rw [hnb1]; exact delL_nodup (h.rep.nodup hd) s
              · rw [if_neg e] at hnb1; rw [hnb1]; exact h.rep.nodup hb
            have hpq : (ents nb1.names).Perm q1.names := by
              by_cases e : b.toNat = d.toNat
              · rw [if_pos e] at hnb1 hq1e
                rw [hnb1, hq1e]
                show (ents (delL nd.names s)).Perm (IT.delN (bs s) n.names)
                rw [ents_del s (h.rep.nodup hd)]
                exact IT.perm_del hkp.names _
              · rw [if_neg e] at hnb1 hq1e
                rw [hnb1, hq1e]; exact hkq.names
            have hlk1 : look nb1.names ar = some y := by rw [← look_find, IT.perm_find (s1.ord _ q1 hq1) hpq]; exact hfq
            have h40 : (delL nb1.names ar).length < 40 := by
              have e1 := delL_len hnd1 hlk1
              have e2 : nb1.names.length ≤ 40 := by
                by_cases e : b.toNat = d.toNat
                · rw [if_pos e] at hnb1; rw [hnb1]
                  have := (h.rep.small _ _ _ hd).2
                  have := delL_le nd.names s
                  show (delL nd.names s).length ≤ 40
                  omega
                · rw [if_neg e] at hnb1; rw [hnb1]; exact (h.rep.small _ _ _ hb).2
              omega
            have hlo1 : ∀ (w1 : World) (l2 : List (ByteArray × Nat)), l2.Perm ((ar, x) :: delL nb1.names ar) → Mv w t S w1 (movedS S d.toNat b.toNat x bd nd bb nb1 bx nx s l2) → Calls Try.prog 53 #[.pointer (some ⟨t, 0, none⟩), .pointer (some ⟨by_, 0, none⟩)] w1 fun e w' => e = .returned (.tuple #[]) ∧ Stp w t S (fun T' => IT.NF (IT.entT (IT.delT (IT.delT T d.toNat x (bs s) n m) b.toNat y (bs ar) q1 my) b.toNat x (bs ar) { q1 with names := IT.delN (bs ar) q1.names } (IT.alone x m)) T') w' := by
              intro w1 l2 hl2 hmv
              refine loses_one hmv s3 (moved_over h hd hb hx hT hQ hX hne hxb hfn hnb1 hq1 hY1 hyb hyx (h.snd.1.rng _ my hY).2 (s1.ord _ q1 hq1) hfq hl2 hnd1) (fun y' => by rw [hlnk]; exact h.snd.1.many y') hcan (n := ny) ?_
              unfold movedS
              rw [upd_other _ _ hyx, upd_other _ _ hyb, upd_other _ _ hyd]
              exact hy
            have fin : ∀ {e : Ending} {w' : World}, (e = .returned (.int .i64 0) ∧ Stp w t S (fun T' => IT.NF (IT.entT (IT.delT (IT.delT T d.toNat x (bs s) n m) b.toNat y (bs ar) q1 my) b.toNat x (bs ar) { q1 with names := IT.delN (bs ar) q1.names } (IT.alone x m)) T') w') → ∃ r, e = .returned (.int .i64 r) ∧ Stp w t S (fun T' => IT.isMove okN T d.toNat (bs s) b.toNat (bs ar) r T') w' := by
              rintro e w' ⟨rfl, S', T', g1, g2, g3⟩
              refine ⟨0, rfl, S', T', g1, g2, pre2 ?_⟩
              rw [if_neg (fun a => a hkk), if_neg (fun a => a hemp)]
              exact ⟨rfl, q1, _, IT.alone x m, hq1, IT.del_at_d, by rw [IT.del_at hxb (Ne.symm hyx)]; exact IT.del_at_x hne, g3⟩
            by_cases hk : m.kind = 1
            · exact (mv_overd h.rep d b hd hb s ar hkd1 hkb1 hl hx h3 (hkxx.trans hk) (hwi hk) hla hy hyx hne hxb hnb1 h40 hnye hlo1 (hkyy.trans (hkk.2 hk))).mono fun e w' => fin
            · exact (mv_overf h.rep d b hd hb s ar hkd1 hkb1 hl hx h3 (by rw [hkxx]; exact hk) hla hy hyx hne hxb hnb1 h40 hnye hlo1 (by rw [hkyy]; exact fun a => hk (hkk.1 a))).mono fun e w' => fin
end Go.Proofs.Ytafonmnfeibaiaa
namespace Go.Proofs.Ytafonmnfeibaiaa
open Go.RowKit Go.Maps Go.Sort Go.Shelf

/-! ### Names -/
/-- Every element reads as nothing: of the map's keys alone is spoken. -/
def anyR (_ : Value) : Option (DataW Unit × List MemPlace) := some (.nil, [])
theorem keys_list : ∀ (L : List MapEntry) (l : List (ByteArray × Nat)), L.map (fun e => (e.key, e.val)) = entVals l → (∀ p ∈ l, p.1.size ≤ maxLen) →
    L.map (fun e => strOf (WideElems.rg Try.prog 9 anyR e).1) = l.map fun p => bs p.1
  | [], [], _, _ => rfl
  | [], _ :: _, h, _ => by simp [entVals] at h
  | _ :: _, [], h, _ => by simp [entVals] at h
  | e :: L, p :: l, h, hs => by
    simp only [entVals, List.map_cons, List.cons.injEq, Prod.mk.injEq] at h
    have ih := keys_list L l h.2 fun q hq => hs q (List.mem_cons_of_mem _ hq)
    have hk : WideElems.rg Try.prog 9 anyR e = (.string p.1.data.toList, .nil) := by
      refine WideElems.rg_of ?_
      unfold WideElems.rd
      rw [h.1.1]
      simp [keyOf, mapKey, Try.underlying9, anyR, hs p (by simp)]
    rw [List.map_cons, List.map_cons, ih, hk]; rfl
theorem strKeys_map (es : List (Lit × DataW Unit)) : strKeys (DataW.map es) = es.map fun p => strOf p.1 := rfl
theorem strKeys_list (L : List MapEntry) (l : List (ByteArray × Nat)) (h : L.map (fun e => (e.key, e.val)) = entVals l) (hs : ∀ p ∈ l, p.1.size ≤ maxLen) :
    (strKeys (DataW.map ((L.map (WideElems.rg Try.prog 9 anyR)).foldr DataW.insert []))).Perm (l.map fun p => bs p.1) := by
  have e := (WideShapes.sorted_perm (L.map (WideElems.rg Try.prog 9 anyR))).map fun p => strOf p.1
  rw [List.map_map] at e
  have e2 := keys_list L l h hs
  rw [strKeys_map, ← e2]
  generalize WideElems.rg Try.prog 9 anyR = g at e ⊢
  exact e
theorem MapIs.owns {w : World} {m : Nat} {l : List (ByteArray × Nat)} (h : MapIs w m l) (hs : ∀ p ∈ l, p.1.size ≤ maxLen) (hl : l.length ≤ 40) :
    ∃ D0 : DataW Unit, w.ownsMap Try.prog 9 anyR m 40 D0 ∧ (strKeys D0).Perm (l.map fun p => bs p.1) ∧ Maps.size D0 ≤ 40 := by
  obtain ⟨es, clock, h1, h2⟩ := h
  have hlen : es.size = l.length := by have := congrArg List.length h2.vals; simpa [entVals] using this
  refine ⟨_, ⟨es, clock, h1, ⟨?_, (MapKept.stamped_iff es clock).2 ⟨h2.born, h2.apart, ?_⟩, fun x hx => ?_⟩, by omega, rfl⟩, ?_, ?_⟩
  · have : (40 : Nat) ≤ maxLen := by decide
    omega
  · have e1 : es.toList.map (·.key) = l.map fun p => Value.string p.1 := by
      have := congrArg (List.map (·.1)) h2.vals
      unfold entVals at this
      rw [List.map_map, List.map_map] at this
      exact this
    have e2 : (es.toList.map (·.key)).Pairwise (· ≠ ·) := by
      rw [e1, List.pairwise_map]
      have e3 := List.pairwise_map.1 h2.keys
      exact e3.imp fun hne e => hne (Value.string.inj e)
    exact List.pairwise_map.1 e2
  · have hm : (x.key, x.val) ∈ entVals l := by rw [← h2.vals]; exact List.mem_map.2 ⟨x, hx, rfl⟩
    obtain ⟨p, hp, e⟩ := entVals_mem hm
    obtain ⟨e1, _⟩ := Prod.mk.inj e
    refine ⟨(.string p.1.data.toList, .nil), ?_⟩
    unfold WideElems.rd
    rw [e1]
    simp [keyOf, mapKey, Try.underlying9, anyR, hs p hp]
  · exact strKeys_list es.toList l h2.vals hs
  · show ((es.toList.map (WideElems.rg Try.prog 9 anyR)).foldr DataW.insert []).length ≤ 40
    have e := length_sorted (es.toList.map (WideElems.rg Try.prog 9 anyR))
    rw [List.length_map, Array.length_toList] at e
    exact Nat.le_trans (Nat.le_of_eq (e.trans hlen)) hl
def namesT (T : IT.Tr) (k : Nat) : List IT.Bytes := match T k with
  | none => []
  | some m => m.names.map (·.1)
theorem ord_sorted {l : List (IT.Bytes × Nat)} (h : IT.Ord l) {ss : List (List UInt8)} (hp : ss.Perm (l.map (·.1))) : ss.mergeSort (fun x y => decide (x ≤ y)) = l.map (·.1) := by
  rw [mergeSort_of_perm hp]
  refine List.mergeSort_of_pairwise ?_
  rw [List.pairwise_map]
  exact h.imp fun hlt => by simpa using List.le_of_lt hlt
set_option maxHeartbeats 1000000 in
theorem names_map {w : World} {t b mb : Nat} {S : Tab} {n : Nd} (h : Rep w t S) (ki : Int) (hk : S ki.toNat = some (b, n)) (hm : n.mp = some mb) (D0 : DataW Unit) (hown : w.ownsMap Try.prog 9 anyR mb 40 D0) (hsz : Maps.size D0 ≤ 40) :
    Calls Try.prog 27 #[.pointer (some ⟨t, 0, none⟩), .int .i64 ki] w fun e w' => ∃ (v : Value) (ss : List (List UInt8)), e = .returned v ∧ ss.Perm (strKeys D0) ∧
      w'.ownsRow w.heap.size 9 1 v ss.length ((ss.mergeSort (fun x y => decide (x ≤ y))).map encStr) ∧ (v = .slice none 0 0 ↔ ss = []) ∧ Below w.heap.size w w' := by
  have c10 : w.cell? ⟨b, 10, none⟩ = some (.map (some mb)) := by rw [h.cellN hk 10]; show some (Value.map n.mp) = _; rw [hm]
  have hmax : Maps.size D0 ≤ maxLen := Nat.le_trans hsz (by decide)
  have hbytes : Maps.size D0 * 16 ≤ 140737488355328 := by omega
  have H := Lib.hid h
  have HK := Lib.hid hk
  clear h hk hm hsz
  refine (callsIn_wide (n := 6)).1 ?_
  have hfA : Fence.wide.fn 41 := trivial
  have hfK : Fence.wide.fn 55 := trivial
  have hfS : Fence.wide.fn 54 := trivial
  refine callsIn_of_wp Try.func27 rfl trivial ?_ rfl
  simp only [Try.ntmps27, List.size_toArray, List.length_cons, List.length_nil, Nat.reduceAdd, Nat.reduceSub, Array.replicate_succ, Array.replicate_zero, List.push_toArray, List.append_toArray, List.nil_append, List.cons_append]
  gi_wp2_with (first
    | (gi_at_call 41; refine (callsIn_wide.2 (H.out.at_some _ HK.out)).mono ?_; rintro e w' ⟨rfl, rfl⟩)
    | (gi_at_call 55; refine (Try.maps_Keys_55 _ _).mono ?_; rintro e w' ⟨rfl, rfl⟩)
    | (gi_at_call 54; refine (Try.slices_Sorted_keys_54_55 mb 40 D0 anyR w hown hmax hbytes).mono ?_; rintro e w' ⟨v, ss, rfl, hS, hrow, hnil, hb⟩))
  go_ret
  exact ⟨v, ss, rfl, hS, ownsRow_base_a hrow (by simp), hnil, ((Below.refl _ w).alloc (Nat.le_refl _) _).trans (hb.mono (by simp))⟩
set_option maxHeartbeats 1000000 in
theorem names_nomap {w : World} {t b : Nat} {S : Tab} {n : Nd} (h : Rep w t S) (ki : Int) (hk : S ki.toNat = some (b, n)) (hm : n.mp = none) :
    Calls Try.prog 27 #[.pointer (some ⟨t, 0, none⟩), .int .i64 ki] w fun e w' => e = .returned (.slice none 0 0) ∧ Below w.heap.size w w' := by
  have c10 : w.cell? ⟨b, 10, none⟩ = some (.map none) := by rw [h.cellN hk 10]; show some (Value.map n.mp) = _; rw [hm]
  have H := Lib.hid h
  have HK := Lib.hid hk
  clear h hk hm
  refine (callsIn_wide (n := 6)).1 ?_
  have hfA : Fence.wide.fn 41 := trivial
  have hfK : Fence.wide.fn 55 := trivial
  have hfS : Fence.wide.fn 54 := trivial
  refine callsIn_of_wp Try.func27 rfl trivial ?_ rfl
  simp only [Try.ntmps27, List.size_toArray, List.length_cons, List.length_nil, Nat.reduceAdd, Nat.reduceSub, Array.replicate_succ, Array.replicate_zero, List.push_toArray, List.append_toArray, List.nil_append, List.cons_append]
  gi_wp2_with (first
    | (gi_at_call 41; refine (callsIn_wide.2 (H.out.at_some _ HK.out)).mono ?_; rintro e w' ⟨rfl, rfl⟩)
    | (gi_at_call 55; refine (Try.maps_Keys_55 _ _).mono ?_; rintro e w' ⟨rfl, rfl⟩)
    | (gi_at_call 54; refine (Try.slices_Sorted_keys_nil_54_55 w).mono ?_; rintro e w' ⟨v, ss, rfl, hS, hrow, hnil, hb⟩))
  go_ret
  exact ⟨by rw [hnil.2 hS]; rfl, ((Below.refl _ w).alloc (Nat.le_refl _) _).trans (hb.mono (by simp))⟩
set_option maxHeartbeats 400000 in
theorem names_none {w : World} {t : Nat} {S : Tab} (h : Rep w t S) (ki : Int) (hk : S ki.toNat = none) :
    Calls Try.prog 27 #[.pointer (some ⟨t, 0, none⟩), .int .i64 ki] w fun e w' => e = .returned (.slice none 0 0) ∧ w = w' := by
  have H := Lib.hid h
  have HK := Lib.hid hk
  clear h hk
  go_enter Try.func27, Try.ntmps27
  go_wp2_with fail
  refine (H.out.at_none _ HK.out).mono ?_
  rintro e w' ⟨rfl, rfl⟩
  go_wp2
  go_ret
  exact ⟨rfl, rfl⟩
theorem okN_len {l : IT.Bytes} (h : okN l = true) : l.length ≤ 14 := (of_decide_eq_true h).2.1
theorem names_any {w : World} {t : Nat} {S : Tab} {T : IT.Tr} (h : Tre w t S T) (ki : Int) :
    Calls Try.prog 27 #[.pointer (some ⟨t, 0, none⟩), .int .i64 ki] w fun e w' => ∃ v, e = .returned v ∧ w'.ownsRow w.heap.size 9 1 v (namesT T ki.toNat).length ((namesT T ki.toNat).map encStr) ∧ (v = .slice none 0 0 ↔ namesT T ki.toNat = []) ∧ Below w.heap.size w w' := by
  have hnil : ∀ (W : World) (b : Nat), W.ownsRow b 9 1 (.slice none 0 0) 0 [] := fun W b => W.ownsRow_nil b 9 1
  unfold namesT
  cases hk : S ki.toNat with
  | none =>
    rw [(h.none_iff _).1 hk]
    refine (names_none h.rep ki hk).mono ?_
    rintro e w' ⟨rfl, rfl⟩
    exact ⟨_, rfl, hnil _ _, by simp, Below.refl _ _⟩
  | some q =>
    obtain ⟨b, n⟩ := q
    obtain ⟨m, hT, hkp⟩ := h.get hk
    rw [hT]
    have hp : (ents n.names).Perm m.names := hkp.names
    cases hm : n.mp with
    | none =>
      have hn := h.rep.nomap _ b n hk hm
      have hmn : m.names = [] := by rw [hn] at hp; exact (List.Perm.nil_eq hp).symm
      refine (names_nomap h.rep ki hk hm).mono ?_
      rintro e w' ⟨rfl, hb⟩
      dsimp only
      rw [hmn]
      exact ⟨_, rfl, hnil _ _, by simp, hb⟩
    | some mb =>
      have hs : ∀ p ∈ n.names, p.1.size ≤ maxLen := fun p hpm => by
        have h1 := h.snd.1.okn _ m (bs p.1, p.2) hT (hp.mem_iff.1 (List.mem_map.2 ⟨p, hpm, rfl⟩))
        have h2 := okN_len h1
        rw [bs_len] at h2
        exact Nat.le_trans h2 (by decide)
      obtain ⟨D0, hown, hpk, hsz⟩ := (h.rep.map _ b n mb hk hm).owns hs (h.rep.small _ b n hk).2
      refine (names_map h.rep ki hk hm D0 hown hsz).mono ?_
      rintro e w' ⟨v, ss, rfl, hS, hrow, hv, hb⟩
      have hss : ss.Perm (m.names.map (·.1)) := by
        refine (hS.trans hpk).trans ?_
        have := hp.map (·.1)
        unfold ents at this
        rw [List.map_map] at this
        exact this
      have hlen : ss.length = (m.names.map (·.1)).length := hss.length_eq
      rw [ord_sorted (h.snd.1.ord _ m hT) hss, hlen] at hrow
      refine ⟨v, rfl, hrow, ?_, hb⟩
      rw [hv]
      constructor
      · intro e; rw [e] at hss; exact (List.Perm.nil_eq hss).symm
      · intro e
        dsimp only at e
        rw [e] at hss; exact hss.eq_nil
end Go.Proofs.Ytafonmnfeibaiaa
/- Paths as lists of bytes: what stands between the strokes. No program in sight. -/
namespace Go.Proofs.Ytafonmnfeibaiaa.Pp

abbrev Bytes := List UInt8

def partsA : Bytes → Bytes → List Bytes
  | [], acc => if acc = [] then [] else [acc.reverse]
  | c :: l, acc => if c = 47 then (if acc = [] then partsA l [] else acc.reverse :: partsA l []) else partsA l (c :: acc)
/-- What stands between the strokes. -/
def parts (l : Bytes) : List Bytes := partsA l []

theorem partsA_run : ∀ (a r acc : Bytes), (47 : UInt8) ∉ a → partsA (a ++ r) acc = partsA r (a.reverse ++ acc)
  | [], _, _, _ => rfl
  | c :: a, r, acc, h => by
    have hc : c ≠ 47 := fun e => h (by simp [e])
    have ha : (47 : UInt8) ∉ a := fun e => h (by simp [e])
    simp only [List.cons_append, partsA, hc, if_false]
    rw [partsA_run a r (c :: acc) ha]
    simp
theorem parts_cut (a b : Bytes) (h : (47 : UInt8) ∉ a) : parts (a ++ 47 :: b) = (if a = [] then [] else [a]) ++ parts b := by
  unfold parts
  rw [partsA_run a _ [] h]
  by_cases e : a = [] <;> simp [partsA, e]
theorem parts_end (a : Bytes) (h : (47 : UInt8) ∉ a) : parts a = if a = [] then [] else [a] := by
  have := partsA_run a [] [] h
  rw [List.append_nil] at this
  unfold parts
  rw [this]
  by_cases e : a = [] <;> simp [partsA, e]
theorem parts_nil : parts [] = [] := rfl

/-- The index of a stroke cuts a text. -/
theorem stroke_at {l : Bytes} {i : Nat} (h : Lib.indexByte l 47 = i) : i < l.length ∧ (47 : UInt8) ∉ l.take i ∧ l = l.take i ++ 47 :: l.drop (i + 1) := by
  obtain ⟨h1, h2⟩ := Lib.indexByte_some h
  obtain ⟨hi, h3⟩ := List.getElem?_eq_some_iff.1 h1
  refine ⟨hi, fun hm => ?_, ?_⟩
  · obtain ⟨k, hk, he⟩ := List.getElem_of_mem hm
    rw [List.getElem_take] at he
    have hk' : k < i := by simp at hk; omega
    exact h2 k hk' (by rw [List.getElem?_eq_getElem (by omega), he])
  · conv => lhs; rw [← List.take_append_drop i l]
    rw [List.drop_eq_getElem_cons hi, h3]
theorem no_stroke {l : Bytes} (h : Lib.indexByte l 47 = -1) : (47 : UInt8) ∉ l := fun hm => by
  obtain ⟨k, hk, he⟩ := List.getElem_of_mem hm
  exact Lib.indexByte_none h k (by rw [List.getElem?_eq_getElem hk, he])

theorem ex_data (s : ByteArray) (a b : Nat) : (s.extract a b).data.toList = (s.data.toList.take b).drop a := by
  rw [ByteArray.data_extract, Array.toList_extract, List.extract_eq_take_drop, List.drop_take]
theorem sz (s : ByteArray) : s.data.toList.length = s.size := by simp
end Go.Proofs.Ytafonmnfeibaiaa.Pp
namespace Go.Proofs.Ytafonmnfeibaiaa.Pp
/-! ### Directory and last name -/
def IsTrim (s : ByteArray) (n : Nat) : Prop := n ≤ s.size ∧ (∀ j, n ≤ j → j < s.size → s.data[j]! = 47) ∧ (n = 0 ∨ s.data[n - 1]! ≠ 47)
def IsCut (s : ByteArray) (n i : Nat) : Prop := i ≤ n ∧ (∀ j, i ≤ j → j < n → s.data[j]! ≠ 47) ∧ (i = 0 ∨ s.data[i - 1]! = 47)
def bA (s : ByteArray) (n i : Nat) : ByteArray := if n = 0 then s else s.extract 0 i
def bB (s : ByteArray) (n i : Nat) : ByteArray := if n = 0 then ⟨#[]⟩ else s.extract i n

theorem trim_is (s : ByteArray) : ∃ n, IsTrim s n := by
  have h : ∀ k, k ≤ s.size → (∀ j, k ≤ j → j < s.size → s.data[j]! = 47) → ∃ n, IsTrim s n := by
    intro k
    induction k with
    | zero => exact fun h0 h1 => ⟨0, h0, h1, .inl rfl⟩
    | succ k ih =>
      intro h0 h1
      by_cases hc : s.data[k]! = 47
      · refine ih (by omega) (fun j hj hj2 => ?_)
        by_cases e : j = k
        · rw [e]; exact hc
        · exact h1 j (by omega) hj2
      · exact ⟨k + 1, h0, h1, .inr (by simpa using hc)⟩
  exact h s.size (Nat.le_refl _) (fun j h1 h2 => by omega)
theorem cut_is (s : ByteArray) (n : Nat) : ∃ i, IsCut s n i := by
  have h : ∀ k, k ≤ n → (∀ j, k ≤ j → j < n → s.data[j]! ≠ 47) → ∃ i, IsCut s n i := by
    intro k
    induction k with
    | zero => exact fun h0 h1 => ⟨0, h0, h1, .inl rfl⟩
    | succ k ih =>
      intro h0 h1
      by_cases hc : s.data[k]! = 47
      · exact ⟨k + 1, h0, h1, .inr (by simpa using hc)⟩
      · refine ih (by omega) (fun j hj hj2 => ?_)
        by_cases e : j = k
        · rw [e]; exact hc
        · exact h1 j (by omega) hj2
  exact h n (Nat.le_refl _) (fun j h1 h2 => by omega)

theorem data_get (s : ByteArray) (j : Nat) (h : j < s.size) : s.data[j]! = s[j] := by
  have h1 : j < s.data.size := h
  rw [getElem!_pos s.data j h1]; rfl
theorem toList_get (s : ByteArray) (j : Nat) (h : j < s.data.toList.length) : s.data.toList[j] = s.data[j]! := by
  have h1 : j < s.data.size := by simpa using h
  rw [getElem!_pos s.data j h1]; simp
theorem dropWhile_rev (p : UInt8 → Bool) : ∀ (n : Nat) (l : List UInt8), n ≤ l.length → (∀ j (h : j < l.length), n ≤ j → p l[j] = true) → (n = 0 ∨ ∃ h : n - 1 < l.length, p l[n - 1] = false) → (l.reverse.dropWhile p).reverse = l.take n := by
  intro n l hn h1 h2
  have hd : l = l.take n ++ l.drop n := (List.take_append_drop n l).symm
  have hall : ∀ x ∈ (l.drop n).reverse, p x = true := by
    intro x hx
    obtain ⟨k, hk, he⟩ := List.getElem_of_mem (List.mem_reverse.1 hx)
    rw [List.getElem_drop] at he
    rw [← he]; exact h1 _ _ (by omega)
  have hrev : l.reverse = (l.drop n).reverse ++ (l.take n).reverse := by
    conv => lhs; rw [hd]
    rw [List.reverse_append]
  rw [hrev, List.dropWhile_append_of_pos hall]
  rcases h2 with h0 | ⟨hb, hp⟩
  · subst h0; simp
  · by_cases h0 : n = 0
    · subst h0; simp
    have ht : (l.take n).reverse = l[n - 1] :: (l.take (n - 1)).reverse := by
      obtain ⟨m, rfl⟩ : ∃ m, n = m + 1 := ⟨n - 1, by omega⟩
      simp only [Nat.add_sub_cancel]
      rw [List.take_succ_eq_append_getElem (by omega)]
      simp
    rw [ht, List.dropWhile_cons_of_neg (by simp [hp]), ← ht, List.reverse_reverse]
theorem trim_eq (s : ByteArray) (n : Nat) (h : IsTrim s n) : (⟨(Lib.trimRightB s.data.toList 47).toArray⟩ : ByteArray) = s.extract 0 n := by
  obtain ⟨h1, h2, h3⟩ := h
  have e : Lib.trimRightB s.data.toList 47 = s.data.toList.take n := by
    refine dropWhile_rev _ n _ (by rw [sz]; exact h1) (fun j hj hn => ?_) ?_
    · rw [toList_get]; simp [h2 j hn (by simpa using hj)]
    · by_cases h0 : n = 0
      · exact .inl h0
      · refine .inr ⟨by simp; omega, ?_⟩
        rw [toList_get]
        rcases h3 with h3 | h3
        · exact absurd h3 h0
        · simpa using h3
  apply ByteArray.ext
  apply Array.ext'
  rw [e, ex_data]; simp
theorem ex_get (s : ByteArray) (n j : Nat) (h : j < n) (hn : n ≤ s.size) : (s.extract 0 n).data[j]! = s.data[j]! := by
  have h1 : j < (s.extract 0 n).data.toList.length := by simp [ByteArray.data_extract]; have : n ≤ s.data.size := hn; omega
  have h2 : j < s.data.toList.length := by have : n ≤ s.data.size := hn; simp; omega
  have h3 : (s.extract 0 n).data.toList = s.data.toList.take n := by rw [ex_data]; simp
  rw [← toList_get _ _ h1, ← toList_get _ _ h2]
  simp only [h3, List.getElem_take]
theorem last_eq (s : ByteArray) (n i : Nat) (hn : n ≤ s.size) (h : IsCut s n i) : Lib.lastIndexByte (s.extract 0 n) 47 = (i : Int) - 1 := by
  obtain ⟨h1, h2, h3⟩ := h
  have hsz : (s.extract 0 n).size = n := by simp [ByteArray.size_extract]; omega
  rcases Lib.lastIndexByte_spec (s.extract 0 n) 47 with ⟨e, hno⟩ | ⟨k, hk, e, hc, hlater⟩
  · rw [e]
    rcases h3 with h3 | h3
    · subst h3; rfl
    · by_cases h0 : i = 0
      · subst h0; rfl
      · exfalso
        refine hno (i - 1) (by omega) ?_
        rw [ex_get _ _ _ (by omega) hn, h3]; rfl
  · rw [e]
    rw [hsz] at hk hlater
    rw [ex_get _ _ _ hk hn] at hc
    have hc' : s.data[k]! = 47 := UInt8.toNat_inj.1 (by have : ((s.data[k]!).toNat : Int) = ((47 : UInt8).toNat : Int) := hc; omega)
    have : k < i := by
      rcases Nat.lt_or_ge k i with h | h
      · exact h
      · exact absurd hc' (h2 k h hk)
    rcases h3 with h3 | h3
    · omega
    · have : ¬ k < i - 1 := fun hlt => by
        have := hlater (i - 1) hlt (by omega)
        rw [ex_get _ _ _ (by omega) hn, h3] at this
        exact this rfl
      omega
end Go.Proofs.Ytafonmnfeibaiaa.Pp
namespace Go.Proofs.Ytafonmnfeibaiaa.Pp
def okb (c : UInt8) : Bool := decide (32 ≤ c.toNat) && decide (c.toNat ≠ 127)
/-- What Split tells of a text: from the root; a directory's; the names; the error. -/
def splitS (b : Bytes) : Bool × Bool × List Bytes × Int :=
  if b = [] then (false, false, [], 3)
  else if 128 < b.length ∨ ∃ x ∈ parts b, 14 < x.length then (false, false, [], 10)
  else if b.all okb = false then (false, false, [], 1)
  else (Lib.hasPrefix b [47], Lib.hasSuffix b [47] || (((parts b).getLast?.getD [] == [46]) || ((parts b).getLast?.getD [] == [46, 46])), (parts b).filter (fun x => decide (¬ x = [46])), 0)
end Go.Proofs.Ytafonmnfeibaiaa.Pp
/- Cut at one byte. -/
namespace Go.Proofs.Ytafonmnfeibaiaa.Pp
open Go.RowKit

theorem idx_cases : ∀ (l : Bytes) (c : UInt8), Lib.indexByte l c = -1 ∨ ∃ i : Nat, Lib.indexByte l c = i
  | [], _ => .inl rfl
  | b :: l, c => by
    unfold Lib.indexByte
    split
    · exact .inr ⟨0, rfl⟩
    · split
      · exact .inl rfl
      · rcases idx_cases l c with h | ⟨i, h⟩
        · rename_i h2; rw [h] at h2; exact absurd rfl h2
        · exact .inr ⟨i + 1, by rw [h]; rfl⟩
theorem at_d {d : UInt8} {l : Bytes} {i : Nat} (h : Lib.indexByte l d = i) : i < l.length ∧ d ∉ l.take i ∧ l = l.take i ++ d :: l.drop (i + 1) := by
  obtain ⟨h1, h2⟩ := Lib.indexByte_some h
  obtain ⟨hi, h3⟩ := List.getElem?_eq_some_iff.1 h1
  refine ⟨hi, fun hm => ?_, ?_⟩
  · obtain ⟨k, hk, he⟩ := List.getElem_of_mem hm
    rw [List.getElem_take] at he
    have hk' : k < i := by simp at hk; omega
    exact h2 k hk' (by rw [List.getElem?_eq_getElem (by omega), he])
  · conv => lhs; rw [← List.take_append_drop i l]
    rw [List.drop_eq_getElem_cons hi, h3]
theorem no_d {d : UInt8} {l : Bytes} (h : Lib.indexByte l d = -1) : d ∉ l := fun hm => by
  obtain ⟨k, hk, he⟩ := List.getElem_of_mem hm
  exact Lib.indexByte_none h k (by rw [List.getElem?_eq_getElem hk, he])
theorem toList_data (s : ByteArray) : s.toList = s.data.toList := ByteArray.toList_eq s

set_option maxHeartbeats 1000000 in
theorem cutl_some (d : UInt8) (s : ByteArray) (w : World) (i : Nat) (hi : Lib.indexByte s.data.toList d = i) (hs : s.size ≤ 140737488351232) :
    Calls Try.prog 118 #[.string s, .string ⟨#[d]⟩] w fun e w' => e = .returned (.tuple #[.string (s.extract 0 i), .string (s.extract (i + 1) s.size), .bool true]) ∧ ∃ n, w' = w.drewN n := by
  have hs1 : (s.size : Int) ≤ 140737488351232 := by omega
  have h1 := (at_d hi).1
  rw [sz] at h1
  have h1i : (i : Int) + 1 ≤ s.size := by omega
  have h1j : (i : Int) ≤ s.size := by omega
  have h1k : (0 : Int) ≤ (i : Int) + 1 := by omega
  have h1l : ((i : Int) + 1).toNat = i + 1 := by omega
  have HI := Lib.hid hi
  clear hi
  go_enter Try.func118, Try.ntmps118
  go_wp2_with fail
  refine (Try.stringslite_Index_one s d _).mono ?_
  rintro e w' ⟨rfl, rfl⟩
  rw [HI.out]
  go_wp2_with fail
  go_region
  go_wp2
  exact bodyPost_ret (v := .tuple #[.string (s.extract 0 i), .string (s.extract (i + 1) s.size), .bool true]) (by simp [results, Try.results118, go_sem]) rfl ⟨rfl, 1, rfl⟩
set_option maxHeartbeats 1000000 in
theorem cutl_none (d : UInt8) (s : ByteArray) (w : World) (hi : Lib.indexByte s.data.toList d = -1) :
    Calls Try.prog 118 #[.string s, .string ⟨#[d]⟩] w fun e w' => e = .returned (.tuple #[.string s, .string ⟨#[]⟩, .bool false]) ∧ ∃ n, w' = w.drewN n := by
  have HI := Lib.hid hi
  clear hi
  go_enter Try.func118, Try.ntmps118
  go_wp2_with fail
  refine (Try.stringslite_Index_one s d _).mono ?_
  rintro e w' ⟨rfl, rfl⟩
  rw [HI.out]
  go_wp2
  exact bodyPost_ret (v := .tuple #[.string s, .string ⟨#[]⟩, .bool false]) (by simp [results, Try.results118, go_sem]) rfl ⟨rfl, 0, rfl⟩
theorem cut_some (d : UInt8) (s : ByteArray) (w : World) (i : Nat) (hi : Lib.indexByte s.data.toList d = i) (hs : s.size ≤ 140737488351232) :
    Calls Try.prog 104 #[.string s, .string ⟨#[d]⟩] w fun e w' => e = .returned (.tuple #[.string (s.extract 0 i), .string (s.extract (i + 1) s.size), .bool true]) ∧ ∃ n, w' = w.drewN n := by
  have HI := Lib.hid hi
  clear hi
  go_enter Try.func104, Try.ntmps104
  go_wp2_with fail
  refine (cutl_some d s _ i HI.out hs).mono ?_
  rintro e w' ⟨rfl, n, rfl⟩
  go_wp2
  exact bodyPost_ret (v := .tuple #[.string (s.extract 0 i), .string (s.extract (i + 1) s.size), .bool true]) (by simp [results, Try.results104, go_sem]) rfl ⟨rfl, n, rfl⟩
theorem cut_none (d : UInt8) (s : ByteArray) (w : World) (hi : Lib.indexByte s.data.toList d = -1) :
    Calls Try.prog 104 #[.string s, .string ⟨#[d]⟩] w fun e w' => e = .returned (.tuple #[.string s, .string ⟨#[]⟩, .bool false]) ∧ ∃ n, w' = w.drewN n := by
  have HI := Lib.hid hi
  clear hi
  go_enter Try.func104, Try.ntmps104
  go_wp2_with fail
  refine (cutl_none d s _ HI.out).mono ?_
  rintro e w' ⟨rfl, n, rfl⟩
  go_wp2
  exact bodyPost_ret (v := .tuple #[.string s, .string ⟨#[]⟩, .bool false]) (by simp [results, Try.results104, go_sem]) rfl ⟨rfl, n, rfl⟩
def CutPost (d : UInt8) (s : ByteArray) (w : World) (e : Ending) (w' : World) : Prop :=
  ∃ (a b : ByteArray) (ok : Bool), e = .returned (.tuple #[.string a, .string b, .bool ok]) ∧ (∃ k, w' = w.drewN k) ∧ a.size ≤ s.size ∧ b.size ≤ s.size ∧
    ((ok = true ∧ s.data.toList = a.data.toList ++ d :: b.data.toList ∧ d ∉ a.data.toList) ∨ (ok = false ∧ d ∉ s.data.toList ∧ a = s ∧ b = ⟨#[]⟩))
theorem cut_any (d : UInt8) (s : ByteArray) (w : World) (hs : s.size ≤ 140737488351232) : Calls Try.prog 104 #[.string s, .string ⟨#[d]⟩] w (CutPost d s w) := by
  rcases idx_cases s.data.toList d with hi | ⟨i, hi⟩
  · refine (cut_none d s w hi).mono ?_
    rintro e w' ⟨rfl, hk⟩
    exact ⟨s, ⟨#[]⟩, false, rfl, hk, Nat.le_refl _, Nat.zero_le _, .inr ⟨rfl, no_d hi, rfl, rfl⟩⟩
  · refine (cut_some d s w i hi hs).mono ?_
    rintro e w' ⟨rfl, hk⟩
    obtain ⟨h1, h2, h3⟩ := at_d hi
    exact ⟨_, _, true, rfl, hk, by rw [ByteArray.size_extract]; exact Nat.le_trans (Nat.sub_le _ _) (Nat.min_le_right _ _), by rw [ByteArray.size_extract]; exact Nat.le_trans (Nat.sub_le _ _) (Nat.min_le_right _ _), .inl ⟨rfl, by
        rw [ex_data, ex_data, List.drop_zero, show s.data.toList.take s.size = s.data.toList from List.take_of_length_le (by rw [sz]; exact Nat.le_refl _)]; exact h3, by rw [ex_data, List.drop_zero]; exact h2⟩⟩
end Go.Proofs.Ytafonmnfeibaiaa.Pp
/- Path: no byte that may not be. -/
namespace Go.Proofs.Ytafonmnfeibaiaa.Pp
open Go.RowKit

theorem ret_bool {a b : Bool} (h : a = b) : Ending.returned (.bool a) = .returned (.bool b) := by rw [h]
/-- No byte is one that may not be. -/
def okc (c : UInt8) : Bool := decide (32 ≤ c.toNat) && decide (c.toNat ≠ 127)
def plainB (l : List UInt8) : Bool := l.all okc

theorem plain_take (s : ByteArray) (k : Nat) (h : k < s.size) : plainB (s.data.toList.take (k + 1)) = (plainB (s.data.toList.take k) && okc s[k]) := by
  unfold plainB
  rw [List.take_succ_eq_append_getElem (by simpa using h), List.all_append]
  simp only [List.all_cons, List.all_nil, Bool.and_true]
  rfl
theorem plain_all (s : ByteArray) (k : Nat) (hk : s.size ≤ k) : s.data.toList.take k = s.data.toList := List.take_of_length_le (by simpa using hk)
theorem plain_bad (s : ByteArray) (k : Nat) (h : k < s.size) (hb : okc s[k] = false) : plainB s.data.toList = false := by
  unfold plainB
  rw [List.all_eq_false]
  exact ⟨s[k], by have : s[k] = s.data.toList[k]'(by simpa using h) := rfl
                  rw [this]; exact List.getElem_mem _, by simp [hb]⟩

set_option maxHeartbeats 400000 in
theorem plain_any (s : ByteArray) (w : World) (hs : s.size ≤ 1000000) :
    Calls Try.prog 34 #[.string s] w fun e w' => e = .returned (.bool (plainB s.data.toList)) ∧ w = w' := by
  go_enter Try.func34, Try.ntmps34
  go_wp2
  go_loop [6] (fun i => ∃ k : Nat, k ≤ s.size ∧ i = .int .i64 k ∧ plainB (s.data.toList.take k) = true) (fun i => s.size - (intOf i).toNat)
  case atStart => exact ⟨0, Nat.zero_le _, rfl, rfl⟩
  case round =>
    obtain ⟨k, hk, rfl, hp⟩ := hrel
    have HP := Lib.hid hp
    clear hp
    by_cases hlt : k < s.size
    · by_cases h1 : (s[k].toNat : Int) < 32
      · have hb : okc s[k] = false := by simp [okc]; omega
        have HB := Lib.hid hb
        clear hb
        go_wp2
        go_ret
        exact ⟨ret_bool (plain_bad s k hlt HB.out).symm, rfl⟩
      · by_cases h2 : ((s[k].toNat : Int) == 127) = true
        · have hb : okc s[k] = false := by simp at h2; simp [okc]; omega
          have HB := Lib.hid hb
          clear hb
          go_wp2
          go_ret
          exact ⟨ret_bool (plain_bad s k hlt HB.out).symm, rfl⟩
        · have h3 : ((s[k].toNat : Int) == 127) = false := by simpa using h2
          have hb : okc s[k] = true := by simp at h3; simp [okc]; omega
          have HB := Lib.hid hb
          clear hb h2
          go_wp2
          go_round
          case rel => exact ⟨k + 1, by omega, by go_num, by rw [plain_take s k hlt, HP.out, HB.out]; rfl⟩
          case measure => simp [intOf]; omega
    · go_wp2
      go_ret
      exact ⟨ret_bool (by rw [plain_all s k (by omega)] at HP; exact HP.out.symm), rfl⟩
theorem info9 : (Try.prog.info? 9).map (fun i => (i.zero, i.size, i.bytes)) = some (some (.string ByteArray.empty), 1, 16) := by kernel_rfl

theorem own_ge {w : World} {base : Nat} {e : TypeId} {sz n : Nat} {v : Value} {xs : List Value} (h : w.ownsRow base e sz v n xs) : ∀ k, v.ownBlock = some k → base ≤ k := by
  intro k hk
  obtain ⟨_, ⟨rfl, h0⟩ | ⟨g, cap, cur, rfl, hb, _⟩⟩ := h
  · cases hk
  · cases hk; exact hb
theorem app_below {w wr w1 : World} {o : Value} {n : Nat} {xs : List Value} (hb : Below w.heap.size w wr) (ho : wr.ownsRow w.heap.size 9 1 o n xs) (X : Obj) (hg : (wr.alloc X).grownBy w1 o.ownBlock) : Below w.heap.size w w1 :=
  (hb.alloc hb.size X).grown hg (by have := hb.size; rw [World.size_alloc]; omega) (own_ge ho)

end Go.Proofs.Ytafonmnfeibaiaa.Pp
namespace Go.Proofs.Ytafonmnfeibaiaa.Pp
open Go.RowKit Go.Shelf
attribute [local go_sem] Oper.semAt_some

/-- How much of the text is left in the iterator's own cell. -/
def left (Bn : Nat) (w : World) : Nat := match w.cell? ⟨Bn, 0, none⟩ with
  | some (.string r) => r.size
  | _ => 0
theorem left_eq {Bn : Nat} {w : World} {r : ByteArray} (h : w.cell? ⟨Bn, 0, none⟩ = some (.string r)) : left Bn w = r.size := by simp [left, h]

set_option maxHeartbeats 1000000 in
/-- The iterator: each name goes to yield, till that says no. J: what holds between two rounds, behind the names that have come; the iterator writes its own cell Bn alone, and draws. -/
theorem names_in (n l Bn : Nat) (s : ByteArray) (J : List ByteArray → World → Prop) (Jx : World → Prop) (hs : s.size ≤ 1000000)
    (hY : ∀ pre x W, J pre W → x.data.toList ∈ parts s.data.toList → x.size ≤ s.size → pre.length < s.size → YieldAt Fence.wide (n - 1) Try.prog l #[.string x] W fun e W' =>
      (e = .returned (.bool true) ∧ J (pre ++ [x]) W' ∧ W'.heap[Bn]? = W.heap[Bn]?) ∨ (e = .returned (.bool false) ∧ Jx W'))
    (hC : ∀ pre W v, J pre W → J pre (W.setCell ⟨Bn, 0, none⟩ v)) (hD : ∀ pre W q, J pre W → J pre (W.drewN q))
    (W : World) (hc : W.cell? ⟨Bn, 0, none⟩ = some (.string s)) (hf : W.frozen? ⟨Bn, 0, none⟩ = false) (h0 : J [] W) :
    CallsIn Fence.wide n Try.prog 103 #[.func (.yield l) #[] #[], .pointer (some ⟨Bn, 0, none⟩)] W fun e W' => (∃ v, e = .returned v) ∧
      ((∃ xs, xs.map (fun x : ByteArray => x.data.toList) = parts s.data.toList ∧ J xs W') ∨ Jx W') := by
  refine callsIn_of_wp Try.func103 rfl trivial ?_ rfl
  simp only [Try.ntmps103, List.size_toArray, List.length_cons, List.length_nil, Nat.reduceAdd, Nat.reduceSub, Array.replicate_succ, Array.replicate_zero, List.push_toArray, List.append_toArray, List.nil_append, List.cons_append]
  have HY := Lib.hid hY
  have HC := Lib.hid hC
  have HD := Lib.hid hD
  have H0 := Lib.hid h0
  have HCell := Lib.hid hc
  have HF := Lib.hid hf
  clear hY hC hD h0 hc hf
  gi_wp2
  gi_loopw [3] (fun _ wr => ∃ (pre : List ByteArray) (r : ByteArray), wr.cell? ⟨Bn, 0, none⟩ = some (.string r) ∧ wr.frozen? ⟨Bn, 0, none⟩ = false ∧ pre.length + r.size ≤ s.size ∧ parts s.data.toList = pre.map (fun x : ByteArray => x.data.toList) ++ parts r.data.toList ∧ J pre wr)
    (fun _ wr => left Bn wr)
  case atStart =>
    exact ⟨[], s, HCell.out, HF.out, by simp, by simp, H0.out⟩
  case round =>
    obtain ⟨pre, r, hcr, hfr, hl, hp, hJ⟩ := hrel
    have HP := Lib.hid hp
    have HJ := Lib.hid hJ
    have HL := Lib.hid hl
    clear hp hJ hl
    by_cases hr : r.data.toList = []
    · have hr1 : r.toList = [] := by rw [toList_data]; exact hr
      have HR := Lib.hid hr
      clear hr
      gi_wp2
      go_end0
      exact ⟨⟨_, rfl⟩, .inl ⟨pre, by rw [HP.out, HR.out]; simp [parts_nil], HJ.out⟩⟩
    · have hr1 : r.toList.isEmpty = false := by rw [toList_data]; cases hh : r.data.toList with | nil => exact absurd hh hr | cons => rfl
      have HR := Lib.hid hr
      clear hr
      rcases Int.lt_or_le (Lib.indexByte r.data.toList 47) 0 with hi | hi
      · have HI : Hid (Lib.indexByte r.data.toList 47 = -1) := Lib.hid (by have := Lib.indexByte_ge r.data.toList 47; omega)
        clear hi
        gi_wp2_with fail
        refine ⟨trivial, fun h => (by cases h), ?_⟩
        refine (callsIn_wide.2 (cut_none 47 r _ HI.out)).mono ?_
        rintro e w' ⟨rfl, q, rfl⟩
        have HX : Hid (r.data.toList ≠ []) := HR
        have hrz : 0 < r.size := by rw [← sz]; exact List.length_pos_iff.2 HR.out
        have HPE := Lib.hid (parts_end r.data.toList (no_stroke HI.out))
        obtain ⟨fn, tmps, assign, body, hy, hR⟩ := HY.out pre r (wr.drewN q) (HD.out _ _ _ HJ.out) (by rw [HP.out, HPE.out, if_neg HX.out]; simp) (by have := HL.out; omega) (by have := HL.out; omega)
        gi_wp2
        refine ⟨fun h => (by cases h), hR.mono ?_⟩
        rintro e W3 (⟨rfl, hJ3, hk3⟩ | ⟨rfl, hJx3⟩)
        · have hc3 : W3.cell? ⟨Bn, 0, none⟩ = some (.string r) := (World.cell?_of_block (w := wr.drewN q) (a := ⟨Bn, 0, none⟩) hk3).trans hcr
          have hf3 : W3.frozen? ⟨Bn, 0, none⟩ = false := (World.frozen?_of_block (w := wr.drewN q) (a := ⟨Bn, 0, none⟩) hk3).trans hfr
          have HJ3 := Lib.hid hJ3
          clear hJ3 hk3 hy hR
          gi_wp2
          have e1 : (W3.setCell ⟨Bn, 0, none⟩ (.string ⟨#[]⟩)).cell? ⟨Bn, 0, none⟩ = some (.string ⟨#[]⟩) := World.cell?_setCell_same _ _ _ hc3
          go_roundw
          case rel => exact ⟨pre ++ [r], ⟨#[]⟩, e1, by rw [World.frozen?_setCell]; exact hf3, by have := HL.out; have e9 : ({ data := #[] } : ByteArray).size = 0 := rfl; simp only [List.length_append, List.length_cons, List.length_nil]; omega, by rw [HP.out, HPE.out, if_neg HR.out, show (({ data := #[] } : ByteArray).data.toList) = [] from rfl, parts_nil]; simp, HC.out _ _ _ HJ3.out⟩
          case measure => rw [left_eq e1, left_eq hcr]; exact hrz
        · gi_wp2
          refine bodyPost_ret (results_none rfl _ _ _) rfl ?_
          exact ⟨⟨_, rfl⟩, .inr hJx3⟩
      · obtain ⟨i, hi'⟩ : ∃ i : Nat, Lib.indexByte r.data.toList 47 = i := ⟨(Lib.indexByte r.data.toList 47).toNat, by omega⟩
        have HI := Lib.hid hi'
        have hilt : i < r.size := by have := (stroke_at hi').1; rwa [sz] at this
        have HPE : Hid (parts r.data.toList = (if (r.extract 0 i).data.toList = [] then [] else [(r.extract 0 i).data.toList]) ++ parts (r.extract (i + 1) r.size).data.toList) := Lib.hid (by
          obtain ⟨h1, h2, h3⟩ := stroke_at hi'
          have e1 : (r.extract 0 i).data.toList = r.data.toList.take i := by rw [ex_data]; simp
          have e2 : (r.extract (i + 1) r.size).data.toList = r.data.toList.drop (i + 1) := by rw [ex_data, List.take_of_length_le (by rw [sz]; exact Nat.le_refl _)]
          rw [e1, e2]
          conv => lhs; rw [h3]
          exact parts_cut _ _ h2)
        have hes : (r.extract 0 i).size = i := by simp [ByteArray.size_extract]; omega
        have HES := Lib.hid hes
        clear hi hi' hes
        gi_wp2_with fail
        refine ⟨trivial, fun h => (by cases h), ?_⟩
        refine (callsIn_wide.2 (cut_some 47 r _ i HI.out (by have := HL.out; omega))).mono ?_
        rintro e w' ⟨rfl, q, rfl⟩
        by_cases h0 : i = 0
        · subst h0
          have hx2 : (r.extract 0 0).data.toList = [] := by rw [ex_data]; simp
          have hx1 : (r.extract 0 0).toList = [] := by rw [toList_data]; exact hx2
          have HX := Lib.hid hx2
          have hcr2 : (wr.drewN q).cell? ⟨Bn, 0, none⟩ = some (.string r) := hcr
          clear hx2
          gi_wp2
          refine ⟨fun _ h => (by cases h), ?_⟩
          gi_wp2
          have e1 : ((wr.drewN q).setCell ⟨Bn, 0, none⟩ (.string (r.extract 1 r.size))).cell? ⟨Bn, 0, none⟩ = some (.string (r.extract 1 r.size)) := World.cell?_setCell_same _ _ _ hcr2
          go_roundw
          case rel => exact ⟨pre, r.extract 1 r.size, e1, by rw [World.frozen?_setCell]; exact hfr, by have := HL.out; simp [ByteArray.size_extract]; omega, by rw [HP.out, HPE.out, if_pos HX.out]; simp, HC.out _ _ _ (HD.out _ _ _ HJ.out)⟩
          case measure => rw [left_eq e1, left_eq hcr]; simp [ByteArray.size_extract]; omega
        · have HX : Hid ((r.extract 0 i).data.toList ≠ []) := Lib.hid (fun e => by have := congrArg List.length e; rw [sz, HES.out] at this; exact h0 this)
          have hx1 : (r.extract 0 i).toList.isEmpty = false := by rw [toList_data]; cases hh : (r.extract 0 i).data.toList with | nil => exact absurd hh HX.out | cons => rfl
          obtain ⟨fn, tmps, assign, body, hy, hR⟩ := HY.out pre (r.extract 0 i) (wr.drewN q) (HD.out _ _ _ HJ.out) (by rw [HP.out, HPE.out, if_neg HX.out]; simp) (by have := HL.out; simp [ByteArray.size_extract]; omega) (by have := HL.out; omega)
          gi_wp2
          refine ⟨fun h => (by cases h), hR.mono ?_⟩
          rintro e W3 (⟨rfl, hJ3, hk3⟩ | ⟨rfl, hJx3⟩)
          · have hc3 : W3.cell? ⟨Bn, 0, none⟩ = some (.string r) := (World.cell?_of_block (w := wr.drewN q) (a := ⟨Bn, 0, none⟩) hk3).trans hcr
            have hf3 : W3.frozen? ⟨Bn, 0, none⟩ = false := (World.frozen?_of_block (w := wr.drewN q) (a := ⟨Bn, 0, none⟩) hk3).trans hfr
            have HJ3 := Lib.hid hJ3
            clear hJ3 hk3 hy hR
            gi_wp2
            have e1 : (W3.setCell ⟨Bn, 0, none⟩ (.string (r.extract (i + 1) r.size))).cell? ⟨Bn, 0, none⟩ = some (.string (r.extract (i + 1) r.size)) := World.cell?_setCell_same _ _ _ hc3
            go_roundw
            case rel => exact ⟨pre ++ [(r.extract 0 i)], (r.extract (i + 1) r.size), e1, by rw [World.frozen?_setCell]; exact hf3, by have := HL.out; simp [ByteArray.size_extract]; omega, by rw [HP.out, HPE.out, if_neg HX.out]; simp, HC.out _ _ _ HJ3.out⟩
            case measure => rw [left_eq e1, left_eq hcr]; simp [ByteArray.size_extract]; omega
          · gi_wp2
            refine bodyPost_ret (results_none rfl _ _ _) rfl ?_
            exact ⟨⟨_, rfl⟩, .inr hJx3⟩
end Go.Proofs.Ytafonmnfeibaiaa.Pp
