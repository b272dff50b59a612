import Derived.Test.YtafonmnfeibaiaaInE
import Derived.Test.YtafonmnfeibaiaaITTm
namespace Go.Proofs.Ytafonmnfeibaiaa
open Go.RowKit

/-! ### New -/
def rootNd (mode owner group : Int) (mp : Option Nat) : Nd := ⟨1, 1, mode, owner, group, 0, 0, 0, ByteArray.empty, mp, [], 1⟩
theorem rep_empty (w : World) : Own w.heap.size w (w.alloc (.cells (Array.replicate 201 (.pointer none)) 71)) w.heap.size (fun _ => none) := by
  have e : tabArr (fun _ => none) = Array.replicate 201 (.pointer none) := by
    apply Array.ext
    · simp [tabArr]
    · intro i h1 h2; simp [tabArr, ptrOf]
  refine ⟨⟨?_, fun k b n h => (by cases h), fun k b n m h => (by cases h), fun k b n h => (by cases h), fun i j b n m h => (by cases h), fun i j b n b' n' m h => (by cases h), fun k x h => (by cases h), fun k b n h => (by cases h), fun k b n h => (by cases h), fun k b n h => (by cases h)⟩, (Below.refl _ _).alloc (Nat.le_refl _) _, by rw [alloc_size]; omega, ?_⟩
  · rw [alloc_heap, e]
  · rintro b (rfl | ⟨k, c, n, h, _⟩)
    · exact Nat.le_refl _
    · cases h
/-- A tree of the call's own, in plain words. -/
structure Tro (B : Nat) (w0 w : World) (t : Nat) (S : Tab) (T : IT.Tr) : Prop where
  own : Own B w0 w t S
  ties : IT.Ties (kpOf S) T IT.calm
  snd : IT.Sound okN T
theorem Tro.tre {B w0 w t S T} (h : Tro B w0 w t S T) : Tre w t S T := ⟨h.own.rep, h.ties, h.snd⟩
theorem Tro.stp {B : Nat} {w0 w w' : World} {t : Nat} {S : Tab} {T : IT.Tr} {R : IT.Tr → Prop} (h : Tro B w0 w t S T) (g : Stp w t S R w') (hR : ∀ T', R T' → IT.Sound okN T') : ∃ S' T', Tro B w0 w' t S' T' ∧ R T' ∧ Mv w t S w' S' := by
  obtain ⟨S', T', g1, g2, g3⟩ := g
  exact ⟨S', T', ⟨h.own.mv g1, g2, hR T' g3⟩, g3, g1⟩
theorem Tro.below {B : Nat} {w0 w w' : World} {t : Nat} {S : Tab} {T : IT.Tr} (h : Tro B w0 w t S T) (hb : Below w.heap.size w w') : Tro B w0 w' t S T := ⟨h.own.mv ((Mv.refl h.own.rep).below hb), h.ties, h.snd⟩
theorem Tro.alloc {B : Nat} {w0 w : World} {t : Nat} {S : Tab} {T : IT.Tr} (h : Tro B w0 w t S T) (o : Obj) : Tro B w0 (w.alloc o) t S T := h.below ((Below.refl _ _).alloc (Nat.le_refl _) _)
theorem Tro.drew {B : Nat} {w0 w : World} {t : Nat} {S : Tab} {T : IT.Tr} (h : Tro B w0 w t S T) : Tro B w0 w.drew t S T := h.below (Below.refl _ _).drew

set_option maxRecDepth 100000 in
set_option maxHeartbeats 400000 in
theorem new_ok (w : World) (mode owner group : Int) (hr : rightB mode owner group = true) :
    Calls Try.prog 9 #[.int .i64 mode, .int .i64 owner, .int .i64 group] w fun e w' => ∃ t S, e = .returned (.pointer (some ⟨t, 0, none⟩)) ∧ Tro w.heap.size w w' t S (IT.rootT mode owner group) := by
  have HE := Lib.hid (rep_empty w)
  have hz : ∀ w : World, (zeroValue 71).run Try.prog w = .ok (.agg (Array.replicate 201 (.pointer none))) w := fun _ => by kernel_rfl
  go_enter Try.func9, Try.ntmps9
  go_wp2_with fail
  refine (right_any _ _ _ _).mono ?_
  rintro e w' ⟨rfl, rfl⟩
  go_wp2_with fail
  refine (lay_dir HE.out.rep 1 1 rfl (by omega) (by omega) rfl _ _ _ _ _ _).mono ?_
  rintro e w' ⟨b, mp, rfl, hmv⟩
  have HM := Lib.hid hmv
  clear hmv
  go_wp2
  go_ret
  refine ⟨w.heap.size, _, rfl, HE.out.mv HM.out, ?_, IT.rootT_sound _ _ _ _⟩
  rw [kpOf_upd]
  have e : kpOf (fun _ => none) = fun _ => none := by funext k; rfl
  rw [e]
  exact IT.Ties.root ⟨rfl, rfl, rfl, rfl, rfl, rfl, rfl, List.Perm.refl _, rfl, rfl⟩
set_option maxHeartbeats 400000 in
theorem new_bad (w : World) (mode owner group : Int) (hr : rightB mode owner group = false) :
    Calls Try.prog 9 #[.int .i64 mode, .int .i64 owner, .int .i64 group] w fun e w' => e = .returned (.pointer none) ∧ w = w' := by
  go_enter Try.func9, Try.ntmps9
  go_wp2_with fail
  refine (right_any _ _ _ _).mono ?_
  rintro e w' ⟨rfl, rfl⟩
  go_wp2
  go_ret
  exact ⟨rfl, rfl⟩

/-! ### Make -/
set_option maxHeartbeats 400000 in
theorem make_dir {w : World} {t : Nat} {S : Tab} (h : Rep w t S) (j : Nat) (hj : Free S j) (mode owner group tty : Int) (hr : rightB mode owner group = true) :
    Calls Try.prog 21 #[.pointer (some ⟨t, 0, none⟩), .int .i64 1, .int .i64 mode, .int .i64 owner, .int .i64 group, .int .i64 tty] w
      (makePost w t S j ⟨(j : Int) + 1, 1, mode, owner, group, 0, 0, 1, ByteArray.empty, none, [], j + 1⟩) := by
  have H := Lib.hid h
  have HJ := Lib.hid hj
  have hb : (j : Int) < 200 := by have := hj.1; omega
  have hb2 : ((1 + (j : Int)) == 0) = false := by simp; omega
  clear h hj
  go_enter Try.func21, Try.ntmps21
  go_wp2_with fail
  refine (right_any _ _ _ _).mono ?_
  rintro e w' ⟨rfl, rfl⟩
  go_wp2_with fail
  refine (index_found ((Mv.refl H.out).alloc _).rep j HJ.out.1 HJ.out.2.1 HJ.out.2.2).mono ?_
  rintro e w' ⟨rfl, rfl⟩
  go_wp2_with fail
  refine (lay_dir ((Mv.refl H.out).alloc _).rep _ (j + 1) (by omega) (by omega) (by omega) HJ.out.2.1 _ _ _ _ _ _).mono ?_
  rintro e w' ⟨b, mp, rfl, hmv⟩
  have hc := hmv.rep.cellN (upd_same ..) 8
  have hfz := hmv.rep.frozenN (upd_same ..) 8
  replace hc : w'.cell? ⟨b, 8, none⟩ = some (.int .i64 0) := hc
  have HM := Lib.hid hmv
  clear hmv
  go_wp2
  go_ret2
  have h2 := (((Mv.refl H.out).alloc _).trans HM.out).setNode (upd_same ..) 8 (.int .i64 1) ⟨(j : Int) + 1, 1, mode, owner, group, 0, 0, 1, ByteArray.empty, mp, [], j + 1⟩ rfl rfl rfl rfl rfl (Nat.zero_le _)
  rw [upd_upd] at h2
  exact ⟨b, mp, ret_tup (by omega), h2⟩
set_option maxHeartbeats 400000 in
theorem make_tty {w : World} {t : Nat} {S : Tab} (h : Rep w t S) (j : Nat) (hj : Free S j) (mode owner group tty : Int) (hr : rightB mode owner group = true) (ht1 : 0 ≤ tty) (ht2 : tty < 4) :
    Calls Try.prog 21 #[.pointer (some ⟨t, 0, none⟩), .int .i64 2, .int .i64 mode, .int .i64 owner, .int .i64 group, .int .i64 tty] w
      (makePost w t S j ⟨(j : Int) + 1, 2, mode, owner, group, 0, tty, 1, ByteArray.empty, none, [], 0⟩) := by
  have H := Lib.hid h
  have HJ := Lib.hid hj
  have hb : (j : Int) < 200 := by have := hj.1; omega
  have hb2 : ((1 + (j : Int)) == 0) = false := by simp; omega
  have ht3 : decide (tty < 0) = false := by simp; omega
  have ht4 : decide (4 ≤ tty) = false := by simp; omega
  clear h hj ht1 ht2
  go_enter Try.func21, Try.ntmps21
  go_wp2_with fail
  refine (right_any _ _ _ _).mono ?_
  rintro e w' ⟨rfl, rfl⟩
  go_wp2_with fail
  refine (index_found (((Mv.refl H.out).alloc _)).rep j HJ.out.1 HJ.out.2.1 HJ.out.2.2).mono ?_
  rintro e w' ⟨rfl, rfl⟩
  go_wp2_with fail
  refine (lay_file (((Mv.refl H.out).alloc _)).rep _ (j + 1) (by omega) (by omega) (by omega) HJ.out.2.1 _ _ _ _ _ _ _ (by decide)).mono ?_
  rintro e w' ⟨b, mp, rfl, hmv⟩
  have hc := hmv.rep.cellN (upd_same ..) 8
  have hfz := hmv.rep.frozenN (upd_same ..) 8
  replace hc : w'.cell? ⟨b, 8, none⟩ = some (.int .i64 0) := hc
  have HM := Lib.hid hmv
  clear hmv
  go_wp2
  go_ret2
  have h2 := ((((Mv.refl H.out).alloc _)).trans HM.out).setNode (upd_same ..) 8 (.int .i64 1) ⟨(j : Int) + 1, 2, mode, owner, group, 0, tty, 1, ByteArray.empty, mp, [], 0⟩ rfl rfl rfl rfl rfl (Nat.zero_le _)
  rw [upd_upd] at h2
  exact ⟨b, mp, ret_tup (by omega), h2⟩
set_option maxHeartbeats 400000 in
theorem make_bad {w : World} (t : Nat) (kind mode owner group tty : Int) (hk : kind < 0 ∨ 2 < kind ∨ rightB mode owner group = false) :
    Calls Try.prog 21 #[.pointer (some ⟨t, 0, none⟩), .int .i64 kind, .int .i64 mode, .int .i64 owner, .int .i64 group, .int .i64 tty] w fun e w' => e = .returned (.tuple #[.int .i64 0, .int .i64 1]) ∧ w = w' := by
  by_cases h1 : kind < 0
  · clear hk
    go_enter Try.func21, Try.ntmps21
    go_wp2
    go_ret2
    exact ⟨rfl, rfl⟩
  · by_cases h2 : 2 < kind
    · clear hk
      go_enter Try.func21, Try.ntmps21
      go_wp2
      go_ret2
      exact ⟨rfl, rfl⟩
    · have hr : rightB mode owner group = false := by rcases hk with h | h | h <;> first | omega | exact h
      clear hk
      go_enter Try.func21, Try.ntmps21
      go_wp2_with fail
      refine (right_any _ _ _ _).mono ?_
      rintro e w' ⟨rfl, rfl⟩
      go_wp2
      go_ret2
      exact ⟨rfl, rfl⟩
set_option maxHeartbeats 400000 in
theorem make_notty {w : World} (t : Nat) (mode owner group tty : Int) (hr : rightB mode owner group = true) (ht : tty < 0 ∨ 4 ≤ tty) :
    Calls Try.prog 21 #[.pointer (some ⟨t, 0, none⟩), .int .i64 2, .int .i64 mode, .int .i64 owner, .int .i64 group, .int .i64 tty] w fun e w' => e = .returned (.tuple #[.int .i64 0, .int .i64 1]) ∧ Below w.heap.size w w' := by
  by_cases h1 : tty < 0
  · clear ht
    go_enter Try.func21, Try.ntmps21
    go_wp2_with fail
    refine (right_any _ _ _ _).mono ?_
    rintro e w' ⟨rfl, rfl⟩
    go_wp2
    go_ret2
    exact ⟨rfl, (Below.refl _ _).alloc (Nat.le_refl _) _⟩
  · have h2 : 4 ≤ tty := by omega
    clear ht
    go_enter Try.func21, Try.ntmps21
    go_wp2_with fail
    refine (right_any _ _ _ _).mono ?_
    rintro e w' ⟨rfl, rfl⟩
    go_wp2
    go_ret2
    exact ⟨rfl, (Below.refl _ _).alloc (Nat.le_refl _) _⟩
set_option maxHeartbeats 400000 in
theorem make_full {w : World} {t : Nat} {S : Tab} (h : Rep w t S) (hs : ∀ i, i < 200 → S (i + 1) ≠ none) (kind mode owner group tty : Int) (hk : kind = 0 ∨ kind = 1) (hr : rightB mode owner group = true) :
    Calls Try.prog 21 #[.pointer (some ⟨t, 0, none⟩), .int .i64 kind, .int .i64 mode, .int .i64 owner, .int .i64 group, .int .i64 tty] w fun e w' => e = .returned (.tuple #[.int .i64 0, .int .i64 9]) ∧ Below w.heap.size w w' := by
  have H := Lib.hid h
  have HS := Lib.hid hs
  clear h hs
  rcases hk with rfl | rfl
  all_goals
    go_enter Try.func21, Try.ntmps21
    go_wp2_with fail
    refine (right_any _ _ _ _).mono ?_
    rintro e w' ⟨rfl, rfl⟩
    go_wp2_with fail
    refine (index_full ((Mv.refl H.out).alloc _).rep HS.out).mono ?_
    rintro e w' ⟨rfl, rfl⟩
    go_wp2
    go_ret2
    exact ⟨rfl, (Below.refl _ _).alloc (Nat.le_refl _) _⟩
set_option maxHeartbeats 400000 in
theorem make_fullt {w : World} {t : Nat} {S : Tab} (h : Rep w t S) (hs : ∀ i, i < 200 → S (i + 1) ≠ none) (mode owner group tty : Int) (hr : rightB mode owner group = true) (ht1 : 0 ≤ tty) (ht2 : tty < 4) :
    Calls Try.prog 21 #[.pointer (some ⟨t, 0, none⟩), .int .i64 2, .int .i64 mode, .int .i64 owner, .int .i64 group, .int .i64 tty] w fun e w' => e = .returned (.tuple #[.int .i64 0, .int .i64 9]) ∧ Below w.heap.size w w' := by
  have H := Lib.hid h
  have HS := Lib.hid hs
  have ht3 : decide (tty < 0) = false := by simp; omega
  have ht4 : decide (4 ≤ tty) = false := by simp; omega
  clear h hs ht1 ht2
  go_enter Try.func21, Try.ntmps21
  go_wp2_with fail
  refine (right_any _ _ _ _).mono ?_
  rintro e w' ⟨rfl, rfl⟩
  go_wp2_with fail
  refine (index_full ((Mv.refl H.out).alloc _).rep HS.out).mono ?_
  rintro e w' ⟨rfl, rfl⟩
  go_wp2
  go_ret2
  exact ⟨rfl, (Below.refl _ _).alloc (Nat.le_refl _) _⟩
theorem free_or (S : Tab) : (∃ j, Free S j) ∨ ∀ i, i < 200 → S (i + 1) ≠ none := by
  have main : ∀ N, N ≤ 200 → (∃ j, Free S j) ∨ ∀ i, i < N → S (i + 1) ≠ none := by
    intro N
    induction N with
    | zero => intro _; exact .inr (fun i hi => by omega)
    | succ N ih =>
      intro hN
      rcases ih (by omega) with h | h
      · exact .inl h
      · cases hS : S (N + 1) with
        | none => exact .inl ⟨N, by omega, hS, h⟩
        | some x =>
          refine .inr fun i hi => ?_
          by_cases e : i = N
          · subst e; rw [hS]; intro e; cases e
          · exact h i (by omega)
  exact main 200 (Nat.le_refl _)
theorem make_any {w : World} {t : Nat} {S : Tab} {T : IT.Tr} (h : Tre w t S T) (kind mo o g tty : Int) :
    Calls Try.prog 21 #[.pointer (some ⟨t, 0, none⟩), .int .i64 kind, .int .i64 mo, .int .i64 o, .int .i64 g, .int .i64 tty] w fun e w' => ∃ (i : Nat) (r : Int), e = .returned (.tuple #[.int .i64 i, .int .i64 r]) ∧ Stp w t S (fun T' => IT.isMake rt T kind mo o g tty i r T') w' := by
  by_cases hbad : kind < 0 ∨ 2 < kind ∨ rightB mo o g = false
  · refine (make_bad t kind mo o g tty hbad).mono ?_
    rintro e w' ⟨rfl, rfl⟩
    refine ⟨0, 1, rfl, Stp.keep h ?_⟩
    unfold IT.isMake
    rw [if_pos]
    · exact ⟨rfl, rfl, rfl⟩
    · rcases hbad with a | a | a
      · exact .inl a
      · exact .inr (.inl a)
      · exact .inr (.inr fun hh => by unfold rt at hh; rw [a] at hh; cases hh)
  · have hr : rightB mo o g = true := by
      cases hb : rightB mo o g with
      | true => rfl
      | false => exact absurd (.inr (.inr hb)) hbad
    have hk0 : ¬ kind < 0 := fun a => hbad (.inl a)
    have hk2 : ¬ 2 < kind := fun a => hbad (.inr (.inl a))
    have n1 : ¬ (kind < 0 ∨ kind > 2 ∨ ¬ rt mo o g) := by
      rintro (a | a | a)
      · exact hk0 a
      · exact hk2 a
      · exact a hr
    by_cases htt : kind = 2 ∧ (tty < 0 ∨ tty ≥ 4)
    · obtain ⟨rfl, ht⟩ := htt
      refine (make_notty t mo o g tty hr ht).mono ?_
      rintro e w' ⟨rfl, hb⟩
      refine ⟨0, 1, rfl, Stp.keepB h hb ?_⟩
      unfold IT.isMake
      rw [if_neg n1, if_pos ⟨rfl, ht⟩]
      exact ⟨rfl, rfl, rfl⟩
    · have hfu : ∀ w', Below w.heap.size w w' → (∀ i, i < 200 → S (i + 1) ≠ none) → Stp w t S (fun T' => IT.isMake rt T kind mo o g tty 0 9 T') w' := by
        intro w' hb hs
        refine Stp.keepB h hb ?_
        unfold IT.isMake
        rw [if_neg n1, if_neg htt, if_pos]
        · exact ⟨rfl, rfl, rfl⟩
        · intro k h1 h2 e
          exact hs (k - 1) (by omega) ((h.none_iff _).2 (by rw [Nat.sub_add_cancel h1]; exact e))
      have hfr : ∀ (j : Nat) (n : Nd) (e : Ending) (w' : World), Free S j → makePost w t S j n e w' → n.names = [] → (∀ mp, IT.Kept (kp { n with mp := mp }) ⟨kind, mo, o, g, if kind = 2 then tty else 0, 1, [], [], if kind = 1 then j + 1 else 0⟩ 0) →
          ∃ (i : Nat) (r : Int), e = .returned (.tuple #[.int .i64 i, .int .i64 r]) ∧ Stp w t S (fun T' => IT.isMake rt T kind mo o g tty i r T') w' := by
        rintro j n e w' hj ⟨b, mp, rfl, hmv⟩ hn hkp
        have hT : T (j + 1) = none := (h.none_iff _).1 hj.2.1
        have hj1 := hj.1
        refine ⟨j + 1, 0, rfl, _, IT.upd T (j + 1) (some ⟨kind, mo, o, g, if kind = 2 then tty else 0, 1, [], [], if kind = 1 then j + 1 else 0⟩), hmv, ?_, ?_⟩
        · rw [kpOf_upd]
          exact h.ties.make hT (by omega) rfl (h.snd.1.free hT) (hkp mp)
        · unfold IT.isMake
          dsimp only
          rw [if_neg n1, if_neg htt, if_neg (fun hh => hh (j + 1) (by omega) (by omega) hT)]
          refine ⟨rfl, by omega, by omega, hT, fun k h1 h2 e => ?_, rfl⟩
          exact hj.2.2 (k - 1) (by omega) ((h.none_iff _).2 (by rw [Nat.sub_add_cancel h1]; exact e))
      rcases free_or S with ⟨j, hj⟩ | hs
      · rcases (show kind = 0 ∨ kind = 1 ∨ kind = 2 by omega) with rfl | rfl | rfl
        · exact (make_file h.rep j hj mo o g tty hr).mono fun e w' hp => hfr j _ e w' hj hp rfl fun mp => ⟨rfl, rfl, rfl, rfl, rfl, rfl, rfl, List.Perm.refl _, rfl, rfl⟩
        · exact (make_dir h.rep j hj mo o g tty hr).mono fun e w' hp => hfr j _ e w' hj hp rfl fun mp => ⟨rfl, rfl, rfl, rfl, rfl, rfl, rfl, List.Perm.refl _, rfl, rfl⟩
        · have ht1 : 0 ≤ tty := Int.not_lt.1 fun a => htt ⟨rfl, .inl a⟩
          have ht2 : tty < 4 := Int.not_le.1 fun a => htt ⟨rfl, .inr a⟩
          exact (make_tty h.rep j hj mo o g tty hr ht1 ht2).mono fun e w' hp => hfr j _ e w' hj hp rfl fun mp => ⟨rfl, rfl, rfl, rfl, rfl, rfl, rfl, List.Perm.refl _, rfl, rfl⟩
      · rcases (show kind = 0 ∨ kind = 1 ∨ kind = 2 by omega) with rfl | rfl | rfl
        · refine (make_full h.rep hs 0 mo o g tty (.inl rfl) hr).mono ?_
          rintro e w' ⟨rfl, hb⟩
          exact ⟨0, 9, rfl, hfu w' hb hs⟩
        · refine (make_full h.rep hs 1 mo o g tty (.inr rfl) hr).mono ?_
          rintro e w' ⟨rfl, hb⟩
          exact ⟨0, 9, rfl, hfu w' hb hs⟩
        · have ht1 : 0 ≤ tty := Int.not_lt.1 fun a => htt ⟨rfl, .inl a⟩
          have ht2 : tty < 4 := Int.not_le.1 fun a => htt ⟨rfl, .inr a⟩
          refine (make_fullt h.rep hs mo o g tty hr ht1 ht2).mono ?_
          rintro e w' ⟨rfl, hb⟩
          exact ⟨0, 9, rfl, hfu w' hb hs⟩
end Go.Proofs.Ytafonmnfeibaiaa
