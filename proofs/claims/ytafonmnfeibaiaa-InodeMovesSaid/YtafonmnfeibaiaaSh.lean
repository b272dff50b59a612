import Derived.Test.YtafonmnfeibaiaaInP
import Derived.Test.YtafonmnfeibaiaaRn
import Derived.Test.YtafonmnfeibaiaaITNc
namespace Go.Proofs.Ytafonmnfeibaiaa
open Go.RowKit

/-! ### What must be in any case: the statements' own small case -/
def sh1 : IT.Tr := IT.upd (IT.rootT 493 0 0) 2 (some ⟨1, 448, 5, 6, 0, 1, [], [], 2⟩)
def sh2 : IT.Tr := IT.entT sh1 1 2 [97] ⟨1, 493, 0, 0, 0, 0, [], [], 1⟩ ⟨1, 448, 5, 6, 0, 1, [], [], 2⟩
def sh3 : IT.Tr := IT.upd sh2 2 (some ⟨1, 448, 5, 6, 0, 0, [], [], 1⟩)
def sh4 : IT.Tr := IT.delT sh3 1 2 [97] ⟨1, 493, 0, 0, 0, 0, [], [([97], 2)], 1⟩ ⟨1, 448, 5, 6, 0, 0, [], [], 1⟩
def sh5 : IT.Tr := IT.rem sh4 2
theorem sh_make {i : Nat} {r : Int} {T' : IT.Tr} (h : IT.isMake rt (IT.rootT 493 0 0) 1 448 5 6 0 i r T') : i = 2 ∧ r = 0 ∧ T' = sh1 := by
  unfold IT.isMake at h
  have hr : rt 448 5 6 := by unfold rt; decide +kernel
  rw [if_neg (by rintro (a | a | a); omega; omega; exact a hr), if_neg (by omega), if_neg (fun hh => hh 2 (by omega) (by omega) rfl)] at h
  obtain ⟨h1, h2, h3, h4, h5, h6⟩ := h
  have hi : i = 2 := by
    by_cases e : i = 1
    · subst e; cases h4
    · by_cases e2 : 2 < i
      · exact absurd rfl (h5 2 (by omega) e2)
      · omega
  subst hi
  exact ⟨rfl, h1, h6⟩
set_option maxRecDepth 100000 in
theorem sh_enter {r : Int} {T' : IT.Tr} (h : IT.isEnter okN sh1 1 [97] 2 r T') : r = 0 ∧ T' = sh2 := by
  unfold IT.isEnter at h
  have e1 : sh1 1 = some ⟨1, 493, 0, 0, 0, 0, [], [], 1⟩ := by decide +kernel
  have e2 : sh1 2 = some ⟨1, 448, 5, 6, 0, 1, [], [], 2⟩ := by decide +kernel
  rw [e1, e2] at h
  dsimp only at h
  have hl : IT.lnk sh1 2 = 0 := by decide +kernel
  have hb : ¬ IT.Bel sh1 2 1 := IT.bel_top e1 (by decide) rfl
  rw [if_neg (by decide), if_neg (by decide +kernel), if_neg (by decide), if_neg (by rw [hl]; decide), if_neg (by decide), if_neg (fun hh => hb hh.2)] at h
  exact h
set_option maxRecDepth 100000 in
theorem sh_enter2 {r : Int} {T' : IT.Tr} (h : IT.isEnter okN sh2 2 [98] 2 r T') : r = 12 ∧ T' = sh2 := by
  unfold IT.isEnter at h
  have e2 : sh2 2 = some ⟨1, 448, 5, 6, 0, 1, [], [], 1⟩ := by decide +kernel
  rw [e2] at h
  dsimp only at h
  have hl : IT.lnk sh2 2 = 1 := by decide +kernel
  rw [if_neg (by decide), if_neg (by decide +kernel), if_neg (by decide), if_pos (by rw [hl]; decide)] at h
  exact h
theorem sh_drop {r : Bool} {T' : IT.Tr} (h : IT.isDrop sh2 2 r T') : T' = sh3 := by
  unfold IT.isDrop at h
  have e2 : sh2 2 = some ⟨1, 448, 5, 6, 0, 1, [], [], 1⟩ := by decide +kernel
  rw [e2] at h
  dsimp only at h
  rw [if_neg (by decide)] at h
  exact IT.nf_stay h.2 (IT.no_can_list (by decide +kernel))
set_option maxRecDepth 100000 in
theorem sh_remove {r : Int} {T' : IT.Tr} (h : IT.isRemove sh3 1 [97] r T') : r = 0 ∧ T' = sh5 := by
  unfold IT.isRemove at h
  have e1 : sh3 1 = some ⟨1, 493, 0, 0, 0, 0, [], [([97], 2)], 1⟩ := by decide +kernel
  have e2 : sh3 2 = some ⟨1, 448, 5, 6, 0, 0, [], [], 1⟩ := by decide +kernel
  rw [e1] at h
  dsimp only at h
  rw [if_neg (by decide), show IT.findN [97] [([97], 2)] = some 2 by decide +kernel] at h
  dsimp only at h
  obtain ⟨m, hm, h⟩ := h
  rw [e2] at hm
  obtain rfl := Option.some.inj hm
  rw [if_neg (by decide)] at h
  exact ⟨h.1, IT.nf_one h.2 (IT.can_iff.2 ⟨by omega, by decide +kernel⟩) (IT.no_can_list (by decide +kernel))⟩
theorem hb_le {T : IT.Tr} (h : (List.range 201).all (fun k => match T k with
    | none => true
    | some m => decide (m.holds ≤ 1000)) = true) (hs : IT.Sound okN T) : HB T 1000000 := fun k m hk => by
  have hr := hs.1.rng k m hk
  have h2 := List.all_eq_true.1 h k (by simp; omega)
  rw [hk] at h2
  have : m.holds ≤ 1000 := of_decide_eq_true h2
  omega

set_option maxRecDepth 100000 in
set_option maxHeartbeats 800000 in
theorem shown_any (w : World) : Calls Try.prog 20 #[] w fun e w' => e = .returned (.bool true) ∧ Below w.heap.size w w' := by
  go_enter Try.func20, Try.ntmps20
  go_wp2_with fail
  refine (new_ok _ _ _ _ (by decide +kernel)).mono ?_
  rintro e w1 ⟨t, S0, rfl, h0⟩
  have H0 := Lib.hid h0
  clear h0
  go_wp2_with fail
  refine (make_any H0.out.tre _ _ _ _ _).mono ?_
  rintro e w2 ⟨i, r, rfl, hst⟩
  obtain ⟨S1, T1, h1, hr, _⟩ := H0.out.stp hst fun T' h => h.sound H0.out.snd
  obtain ⟨rfl, rfl, rfl⟩ := sh_make hr
  have H1 := Lib.hid h1
  clear hst hr h1
  go_wp2_with fail
  refine (enter_any H1.out.tre 1 2 _).mono ?_
  rintro e w3 ⟨r, rfl, hst⟩
  obtain ⟨S2, T2, h2, hr, _⟩ := H1.out.stp hst fun T' h => h.sound H1.out.snd
  obtain ⟨rfl, rfl⟩ := sh_enter hr
  have H2 := Lib.hid h2
  clear hst hr h2
  go_wp2_with fail
  refine (look_any H2.out.tre 2 _).mono ?_
  rintro e w4 ⟨he, rfl⟩
  replace he : e = .returned (.tuple #[.int .i64 1, .bool true]) := he.trans (congrArg _ (by kernel_rfl))
  subst he
  go_wp2_with fail
  refine (enter_any H2.out.tre 2 2 _).mono ?_
  rintro e w5 ⟨r, rfl, hst⟩
  obtain ⟨S3, T3, h3, hr, _⟩ := H2.out.stp hst fun T' h => h.sound H2.out.snd
  obtain ⟨rfl, rfl⟩ := sh_enter2 hr
  have H3 := Lib.hid h3
  clear hst hr h3
  go_wp2_with fail
  refine (drop_any H3.out.tre (hb_le (by decide +kernel) H3.out.snd) 2).mono ?_
  rintro e w6 ⟨r, rfl, hst⟩
  obtain ⟨S4, T4, h4, hr, _⟩ := H3.out.stp hst fun T' h => h.sound H3.out.snd
  obtain rfl := sh_drop hr
  have H4 := Lib.hid h4
  clear hst hr h4
  go_wp2_with fail
  refine (stat_any H4.out.tre 2).mono ?_
  rintro e w7 ⟨he, hb⟩
  replace he : e = .returned (.tuple #[.agg #[.int .i64 2, .int .i64 1, .int .i64 448, .int .i64 5, .int .i64 6, .int .i64 1, .int .i64 0, .int .i64 0], .bool true]) := he.trans (congrArg _ (by kernel_rfl))
  subst he
  have H5 := Lib.hid (H4.out.below hb)
  clear hb
  go_wp2_with fail
  refine (remove_any (H5.out.alloc _).tre 1 _).mono ?_
  rintro e w8 ⟨r, rfl, hst⟩
  obtain ⟨S6, T6, h6, hr, _⟩ := (H5.out.alloc _).stp hst fun T' h => h.sound H5.out.snd
  obtain ⟨rfl, rfl⟩ := sh_remove hr
  have H6 := Lib.hid h6
  clear hst hr h6
  go_wp2_with fail
  refine (stat_any H6.out.tre 2).mono ?_
  rintro e w9 ⟨he, hb⟩
  replace he : e = .returned (.tuple #[.agg #[.int .i64 0, .int .i64 0, .int .i64 0, .int .i64 0, .int .i64 0, .int .i64 0, .int .i64 0, .int .i64 0], .bool false]) := he.trans (congrArg _ (by kernel_rfl))
  subst he
  have H7 := Lib.hid (H6.out.below hb)
  clear hb
  go_wp2
  go_ret
  exact ⟨rfl, (H7.out.alloc _).own.below⟩
end Go.Proofs.Ytafonmnfeibaiaa
