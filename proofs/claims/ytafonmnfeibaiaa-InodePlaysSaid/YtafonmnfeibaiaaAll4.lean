/- Part 5 of the proof: contracts of functions that the statement reaches, and plain lemmas. -/
import Derived.Test.YtafonmnfeibaiaaAll3
import Derived.Test.YtafonmnfeibaiaaAll1
import Derived.Test.YtafonmnfeibaiaaAll0
import Derived.Test.YtafonmnfeibaiaaAll2
import Derived.Deep.QuietTactic
import Derived.BigQuiet
set_option linter.unusedSimpArgs false
set_option linter.unusedVariables false
namespace Go.Proofs.Ytafonmnfeibaiaa.RF
open Go.RowKit

set_option maxRecDepth 100000 in
set_option maxHeartbeats 4000000 in
theorem rf_enter_dir {w : World} {t B : Nat} {G : Gt} {T : IT.Tr} (h : Trf w t B G T) (d x : Int) (s : ByteArray) {n m : IT.Nd} (hd : T d.toNat = some n) (hx : T x.toNat = some m) (hk : n.kind = 1) (hok : okN (bs s) = true) (hf : IT.findN (bs s) n.names = none) (hm : ¬ (x.toNat = 1 ∨ (m.kind = 1 ∧ IT.lnk T x.toNat > 0) ∨ IT.lnk T x.toNat ≥ 8)) (h40 : ¬ n.names.length ≥ 40) (hmk : m.kind = 1) (hbe : ¬ IT.Bel T x.toNat d.toNat) :
    Calls Try.prog 65 #[.pointer (some ⟨t, 0, none⟩), .int .i64 d, .string s, .int .i64 x] w fun e w' => e = .returned (.int .i64 0) ∧ AdP w t B (updG G x.toNat { G x.toNat with parent := (d.toNat : Int) }) d.toNat s x.toNat w' := by
  have HI1 := Lib.hid (rf_is_yes h d hd)
  have HI2 := Lib.hid (rf_is_yes h x hx)
  obtain ⟨kd, rfl, hd1, hd2, hdk⟩ := h.nat hd
  obtain ⟨kx, rfl, hx1, hx2, hxk⟩ := h.nat hx
  have c0 := h.rep.cellT
  have b1 := h.rep.c1 kd hd2
  rw [(h.ties.sok kd n hdk).kind] at b1
  rw [hk] at b1
  have HN := Lib.hid (rname_ok s w)
  rw [hok] at HN
  have hfn := ((h.ties.find h.snd.1 hdk s).resolve_right (fun ⟨i, y, e, _⟩ => by rw [hf] at e; cases e)).2
  have HA := Lib.hid (rf_at_none h.rep kd hd2 s hfn)
  have hS := sumG_lnk h.snd.1.rng h.ties kx
  have HL := Lib.hid (rf_sum h.rep kx (h.ties.few h.snd.1))
  rw [hS] at HL
  have b1x := h.rep.c1 kx hx2
  rw [(h.ties.sok kx m hxk).kind] at b1x
  have hl8 := h.snd.1.many kx
  rw [Int.toNat_natCast] at hm
  have q1 : ¬ kx = 1 := fun e => hm (.inl e)
  have z1 : ((kx : Int) == 1) = false := by simpa using (show ¬ (kx : Int) = 1 by omega)
  have hl7 : ¬ IT.lnk T kx ≥ 8 := fun e => hm (.inr (.inr e))
  have hl8' : ((IT.lnk T kx : Nat) : Int) < 8 := by omega
  have hdz : m.kind = 1 → IT.lnk T kx = 0 := fun e => by
    have := fun e2 => hm (.inr (.inl ⟨e, e2⟩))
    omega
  have b9 := h.rep.c9 kd hd2
  obtain ⟨a, cap, hs, hcp1, hcp2, _⟩ := (h.rep.ents kd hd2).lit
  rw [hs] at b9
  have hnl : n.names.length = (G kd).ents.length := by have := (h.ties.sok kd n hdk).names.length_eq; unfold ents at this; rw [List.length_map] at this; exact this.symm
  rw [hnl] at h40
  have hL1 : ((G kd).ents.length : Int) < 40 := by omega
  have hL2 : (G kd).ents.length < 40 := by omega
  obtain ⟨i0, hi0, hz0, hz1, hz2⟩ := info_parts info_entry
  have hne : kd ≠ kx := fun e => hbe (by
    have e2 : (kd : Int).toNat = (kx : Int).toNat := by omega
    rw [e2]; exact .self)
  have HWI : Hid (Calls Try.prog 87 #[.pointer (some ⟨t, 0, none⟩), .int .i64 (kd : Int), .int .i64 (kx : Int)] w fun e w' => e = .returned (.bool false) ∧ w = w') := Lib.hid ((rf_within h kd kx hdk hk).mono (by
    rintro e w' ⟨b, rfl, hb, rfl⟩
    cases b with
    | false => exact ⟨rfl, rfl⟩
    | true => exact absurd (hb.1 rfl) hbe))
  have hz := hdz hmk
  rw [hz, show ((0 : Nat) : Int) = 0 from rfl] at HL
  rw [hmk] at b1x
  have b7 := h.rep.c7 kx hx2
  have s7 := h.rep.frozen (kx * 10 + 7)
  have hrf1 := h.rep.set hx2 (show 7 < 10 by omega) (.int .i64 (kd : Int)) { G kx with parent := (kd : Int) } rfl (h.rep.ents kx hx2)
  have hmo1 := (Mo.refl B w).set (i := kx * 10 + 7) (.int .i64 (kd : Int))
  obtain ⟨G1, hG1⟩ : ∃ G1, updG G kx { G kx with parent := (kd : Int) } = G1 := ⟨_, rfl⟩
  have hGd : G1 kd = G kd := by rw [← hG1, updG_other _ _ hne]
  rw [hG1] at hrf1
  obtain ⟨E, hE0⟩ : ∃ E, (G kd).ents = E := ⟨_, rfl⟩
  have hE1 : (G1 kd).ents = E := by rw [hGd]; exact hE0
  have hs1 : (G1 kd).sl = .slice a E.length cap := by rw [hGd, hs, hE0]
  obtain ⟨L, hL⟩ : ∃ L, E.length = L := ⟨_, rfl⟩
  rw [hE0, hL] at hL1 hL2 b9
  rw [hL] at hs1
  have HLE := Lib.hid hL
  have HG := Lib.hid hE1
  have HRF1 := Lib.hid hrf1
  have HMO1 := Lib.hid hmo1
  rw [Int.toNat_natCast, Int.toNat_natCast, hG1]
  clear h hd hx hdk hxk hk hok hf hfn hS hm q1 hs hcp1 hcp2 hnl hmk hdz hL h40 hz hbe hG1 hGd hE0 hrf1 hmo1 hl8' hl7 hl8 hne
  generalize IT.lnk T kx = ln at *
  go_enter Try.func65, Try.ntmps65
  go_wp2_with fail
  refine HI1.out.mono ?_
  rintro e wz ⟨rfl, rfl⟩
  go_wp2_with fail
  refine HI2.out.mono ?_
  rintro e wz ⟨rfl, rfl⟩
  go_wp2_with fail
  refine HN.out.mono ?_
  rintro e wz ⟨rfl, rfl⟩
  go_wp2_with fail
  refine HA.out.mono ?_
  rintro e wz ⟨rfl, rfl⟩
  go_wp2_with fail
  refine HL.out.mono ?_
  rintro e wz ⟨rfl, rfl⟩
  go_wp2_with fail
  refine HWI.out.mono ?_
  rintro e wz ⟨rfl, rfl⟩
  go_upto_region 22 with fail
  clear c0 b1 b1x b9 b7 s7
  have hrf := HRF1.out
  have hmo := HMO1.out
  generalize w.setCell ⟨B, kx * 10 + 7, none⟩ (.int .i64 (kd : Int)) = W1 at *
  have HM1 := Lib.hid hmo
  clear hmo
  have HRF := Lib.hid hrf
  have hBL := hrf.ltB
  have hTL := hrf.ltT
  have hTB := hrf.ne
  have c0 := hrf.cellT
  have b9 := hrf.c9 kd hd2
  rw [hs1] at b9
  have C9 := Lib.hid b9
  have s9 := hrf.frozen (kd * 10 + 9)
  have HSRC : Hid (∀ W', Mo B W1 W' → W'.ownsRow 0 126 2 (.slice a L cap) L (flatE E)) := Lib.hid (fun W' hm => by
    have := EntAt.mo HRF.out (HRF.out.ents kd hd2) hm
    unfold EntAt at this
    rw [hs1, hE1, HLE.out] at this
    rw [← HLE.out] at this ⊢
    exact this)
  have n1 : kd < 201 := by omega
  have n2 : (kd : Int) < 201 := by omega
  clear hrf
  clear hs1 hE1
  refine wp_region_held_drew (S := (fun W' => Mo B W1 W' ∧ W'.cell? ⟨t, 0, none⟩ = some (.slice (some ⟨B, 0, none⟩) 201 201) ∧ W'.frozen? ⟨B, kd * 10 + 9, none⟩ = false)) (by kernel_rfl) (Sy.below (Below.refl _ _).drew hTL hBL (Sy.start HRF.out _)) (fun hHeld => ?_)
  refine wpAnyH_take (i := 0) (v := ?_) rfl (by kernel_rfl) (by kernel_rfl) (by kernel_rfl) (fun _ _ _ h => h) (Or.inl ⟨by rfl, ?_⟩) (by assumption) ?_
  rotate_left
  · (intro W hSw; (try dsimp only at hSw); go_simp; try with_reducible rfl)
  try simp only [List.getElem_toArray, List.getElem_cons_zero, List.getElem_cons_succ, Act.put, List.setIfInBounds_toArray, List.set_cons_zero, List.set_cons_succ]
  refine wpAnyH_take (i := 1) (v := ?_) rfl (by kernel_rfl) (by kernel_rfl) (by kernel_rfl) (fun _ _ _ h => h) (Or.inl ⟨by rfl, ?_⟩) (by assumption) ?_
  rotate_left
  · (intro W hSw; (try dsimp only at hSw); go_simp; try with_reducible rfl)
  try simp only [List.getElem_toArray, List.getElem_cons_zero, List.getElem_cons_succ, Act.put, List.setIfInBounds_toArray, List.set_cons_zero, List.set_cons_succ]
  refine wpAnyH_take (i := 2) (v := ?_) rfl (by kernel_rfl) (by kernel_rfl) (by kernel_rfl) (fun _ _ _ h => h) (Or.inl ⟨by rfl, ?_⟩) (by assumption) ?_
  rotate_left
  · (intro W hSw; (try dsimp only at hSw); go_simp; try with_reducible rfl)
  try simp only [List.getElem_toArray, List.getElem_cons_zero, List.getElem_cons_succ, Act.put, List.setIfInBounds_toArray, List.set_cons_zero, List.set_cons_succ]
  refine wpAnyH_take (i := 3) (v := ?_) rfl (by kernel_rfl) (by kernel_rfl) (by kernel_rfl) (fun _ _ _ h => h) (Or.inl ⟨by rfl, ?_⟩) (by assumption) ?_
  rotate_left
  · (intro W hSw; (try dsimp only at hSw); go_simp; try with_reducible rfl)
  try simp only [List.getElem_toArray, List.getElem_cons_zero, List.getElem_cons_succ, Act.put, List.setIfInBounds_toArray, List.set_cons_zero, List.set_cons_succ]
  refine wpAnyH_take (i := 4) (v := ?_) rfl (by kernel_rfl) (by kernel_rfl) (by kernel_rfl) (fun _ _ _ h => h) (Or.inl ⟨by rfl, ?_⟩) (by assumption) ?_
  rotate_left
  · (intro W hSw; (try dsimp only at hSw); go_simp; try with_reducible rfl)
  try simp only [List.getElem_toArray, List.getElem_cons_zero, List.getElem_cons_succ, Act.put, List.setIfInBounds_toArray, List.set_cons_zero, List.set_cons_succ]
  refine wpAnyH_take (i := 6) (v := ?_) rfl (by kernel_rfl) (by kernel_rfl) (by kernel_rfl) (fun _ _ _ h => h) (Or.inl ⟨by rfl, ?_⟩) (by assumption) ?_
  rotate_left
  · (intro W hSw; (try dsimp only at hSw); go_simp; try with_reducible rfl)
  try simp only [List.getElem_toArray, List.getElem_cons_zero, List.getElem_cons_succ, Act.put, List.setIfInBounds_toArray, List.set_cons_zero, List.set_cons_succ]
  refine wpAnyH_take (i := 7) (v := ?_) rfl (by kernel_rfl) (by kernel_rfl) (by kernel_rfl) (fun _ _ _ h => h) (Or.inl ⟨by rfl, ?_⟩) (by assumption) ?_
  rotate_left
  · (intro W hSw; (try dsimp only at hSw); go_simp; try with_reducible rfl)
  try simp only [List.getElem_toArray, List.getElem_cons_zero, List.getElem_cons_succ, Act.put, List.setIfInBounds_toArray, List.set_cons_zero, List.set_cons_succ]
  refine wpAnyH_take (i := 8) (v := ?_) rfl (by kernel_rfl) (by kernel_rfl) (by kernel_rfl) (fun _ _ _ h => h) (Or.inl ⟨by rfl, ?_⟩) (by assumption) ?_
  rotate_left
  · (intro W hSw; (try dsimp only at hSw); go_simp; try with_reducible rfl)
  try simp only [List.getElem_toArray, List.getElem_cons_zero, List.getElem_cons_succ, Act.put, List.setIfInBounds_toArray, List.set_cons_zero, List.set_cons_succ]
  refine wpAnyH_take (i := 9) (v := ?_) rfl (by kernel_rfl) (by kernel_rfl) (by kernel_rfl) (fun _ _ _ h => h) (Or.inl ⟨by rfl, ?_⟩) (by assumption) ?_
  rotate_left
  · (intro W hSw; (try dsimp only at hSw); go_simp; try with_reducible rfl)
  try simp only [List.getElem_toArray, List.getElem_cons_zero, List.getElem_cons_succ, Act.put, List.setIfInBounds_toArray, List.set_cons_zero, List.set_cons_succ]
  refine wpAnyH_take (i := 10) (v := ?_) rfl (by kernel_rfl) (by kernel_rfl) (by kernel_rfl) (fun _ _ _ h => h) (Or.inl ⟨by rfl, ?_⟩) (by assumption) ?_
  rotate_left
  · (intro W hSw; (try dsimp only at hSw); go_simp; try with_reducible rfl)
  try simp only [List.getElem_toArray, List.getElem_cons_zero, List.getElem_cons_succ, Act.put, List.setIfInBounds_toArray, List.set_cons_zero, List.set_cons_succ]
  refine wpAnyH_take (i := 11) (v := ?_) rfl (by kernel_rfl) (by kernel_rfl) (by kernel_rfl) (fun _ _ _ h => h) (Or.inl ⟨by rfl, ?_⟩) (by assumption) ?_
  rotate_left
  · (intro W hSw; (try dsimp only at hSw); go_simp; try with_reducible rfl)
  try simp only [List.getElem_toArray, List.getElem_cons_zero, List.getElem_cons_succ, Act.put, List.setIfInBounds_toArray, List.set_cons_zero, List.set_cons_succ]
  refine wpAnyH_take (i := 12) (v := ?_) rfl (by kernel_rfl) (by kernel_rfl) (by kernel_rfl) (fun _ _ _ h => h) (Or.inl ⟨by rfl, ?_⟩) (by assumption) ?_
  rotate_left
  · (intro W hSw; (try dsimp only at hSw); go_simp; try with_reducible rfl)
  try simp only [List.getElem_toArray, List.getElem_cons_zero, List.getElem_cons_succ, Act.put, List.setIfInBounds_toArray, List.set_cons_zero, List.set_cons_succ]
  refine wpAnyH_take (i := 15) (v := ?_) rfl (by kernel_rfl) (by kernel_rfl) (by kernel_rfl) (fun _ _ _ h => h) (Or.inl ⟨by rfl, ?_⟩) (by assumption) ?_
  rotate_left
  · (intro W hSw; (try dsimp only at hSw); go_simp; try with_reducible rfl)
  try simp only [List.getElem_toArray, List.getElem_cons_zero, List.getElem_cons_succ, Act.put, List.setIfInBounds_toArray, List.set_cons_zero, List.set_cons_succ]
  refine wpAnyH_take (i := 16) (v := ?_) rfl (by kernel_rfl) (by kernel_rfl) (by kernel_rfl) (fun _ _ _ h => h) (Or.inl ⟨by rfl, ?_⟩) (by assumption) ?_
  rotate_left
  · (intro W hSw; (try dsimp only at hSw); go_simp; try with_reducible rfl)
  try simp only [List.getElem_toArray, List.getElem_cons_zero, List.getElem_cons_succ, Act.put, List.setIfInBounds_toArray, List.set_cons_zero, List.set_cons_succ]
  refine wpAnyH_take (i := 17) (v := ?_) rfl (by kernel_rfl) (by kernel_rfl) (by kernel_rfl) (fun _ _ _ h => h) (Or.inl ⟨by rfl, ?_⟩) (by assumption) ?_
  rotate_left
  · (intro W hSw; (try dsimp only at hSw); go_simp; try with_reducible rfl)
  try simp only [List.getElem_toArray, List.getElem_cons_zero, List.getElem_cons_succ, Act.put, List.setIfInBounds_toArray, List.set_cons_zero, List.set_cons_succ]
  refine wpAnyH_ready (rs := [5, 13, 18]) (by kernel_rfl) (by simp) ?_
  refine AllReadyH.cons rfl (fun K hK => ?_) ?_
  · simp only [List.getElem_toArray, List.getElem_cons_zero, List.getElem_cons_succ]
    go_simp
    refine hK.out _ _ ?_ (fun hHeld => ?_)
    · (try dsimp only); exact Sy.below ((Below.refl _ _).alloc (‹Mo B W1 _ ∧ _›).1.size _) hTL hBL ‹Mo B W1 _ ∧ _›
    clear hK K
    try simp only [List.getElem_toArray, List.getElem_cons_zero, List.getElem_cons_succ, Act.put, List.setIfInBounds_toArray, List.set_cons_zero, List.set_cons_succ]
    refine wpAnyH_ready (rs := [13, 18]) (by kernel_rfl) (by simp) ?_
    refine AllReadyH.cons rfl (fun K hK => ?_) ?_
    · simp only [List.getElem_toArray, List.getElem_cons_zero, List.getElem_cons_succ]
      go_simp
      refine hK.out _ _ ?_ (fun hHeld => ?_)
      · (try dsimp only); assumption
      clear hK K
      try simp only [List.getElem_toArray, List.getElem_cons_zero, List.getElem_cons_succ, Act.put, List.setIfInBounds_toArray, List.set_cons_zero, List.set_cons_succ]
      refine wpAnyH_ready (rs := [14, 18]) (by kernel_rfl) (by simp) ?_
      refine AllReadyH.cons rfl (fun K hK => ?_) ?_
      · refine step_app_row2 rfl (.tmp 105) (.tmp 113) 108 rfl W1.heap.size 126 i0 (.agg #[.string ⟨#[]⟩, .int .i64 0]) 24 Try.underlying108 hi0 hz0 hz1 hz2 rfl (.slice (some ⟨W1.heap.size, 0, none⟩) 0 0) 0 [] ?_ ?_ 0 (.slice a L cap) L (flatE E) ?_ ?_ ?_ ?_ ?_ ?_ ?_
        · simp [Act.eval, Act.put]; done
        · exact (own_empty _ _ _ _ rfl (Nat.le_refl _)).drew
        · simp [Act.eval, Act.put]; done
        · exact HSRC.out _ (‹Mo B W1 _ ∧ _›).1
        · exact fun u hu => flatE_one _ u hu
        · unfold maxLen; omega
        · omega
        · exact (‹Mo B W1 _ ∧ _›).1.size
        intro v5 w5 hown5 hgrow5 hbel5
        have hm5 : Mo B W1 w5 := (‹Mo B W1 _ ∧ _›).1.grow hbel5
        have hq5 : w5.heap[B]? = W1.heap[B]? := (hbel5.block B hBL).trans (Below.block (((Below.refl W1.heap.size W1).drew).alloc (Nat.le_refl _) _) B hBL)
        refine hK.out _ _ ?_ (fun hHeld => ?_)
        · (try dsimp only); exact Sy.below hbel5 hTL hBL ‹Mo B W1 _ ∧ _›
        clear hK K
        try simp only [List.getElem_toArray, List.getElem_cons_zero, List.getElem_cons_succ, Act.put, List.setIfInBounds_toArray, List.set_cons_zero, List.set_cons_succ]
        refine wpAnyH_ready (rs := [18]) (by kernel_rfl) (by simp) ?_
        refine AllReadyH.cons rfl (fun K hK => ?_) AllReadyH.nil
        simp only [List.getElem_toArray, List.getElem_cons_zero, List.getElem_cons_succ]
        go_simp
        refine hK.out _ _ ?_ (fun hHeld => ?_)
        · (try dsimp only); exact Sy.below ((Below.refl _ _).alloc (‹Mo B W1 _ ∧ _›).1.size _) hTL hBL ‹Mo B W1 _ ∧ _›
        clear hK K
        try simp only [List.getElem_toArray, List.getElem_cons_zero, List.getElem_cons_succ, Act.put, List.setIfInBounds_toArray, List.set_cons_zero, List.set_cons_succ]
        refine wpAnyH_ready (rs := [19]) (by kernel_rfl) (by simp) ?_
        refine AllReadyH.cons rfl (fun K hK => ?_) AllReadyH.nil
        refine step_app_row2 rfl (.tmp 114) (.tmp 118) 108 rfl W1.heap.size 126 i0 (.agg #[.string ⟨#[]⟩, .int .i64 0]) 24 Try.underlying108 hi0 hz0 hz1 hz2 rfl v5 (0 + L) ([] ++ flatE E) ?_ ?_ 0 (.slice (some ⟨w5.heap.size, 0, none⟩) 1 1) 1 [.string s, .int .i64 (kx : Int)] ?_ ?_ ?_ ?_ ?_ ?_ ?_
        · simp [Act.eval, Act.put]; done
        · exact hown5.below2 ((Below.refl _ _).alloc (Nat.le_refl _) _)
        · simp [Act.eval, Act.put]; done
        · exact own_one _ _ _ _ _ rfl
        · exact fun u hu => by (simp only [List.mem_cons, List.not_mem_nil, or_false] at hu; rcases hu with rfl | rfl <;> rfl)
        · unfold maxLen; omega
        · omega
        · exact (‹Mo B W1 _ ∧ _›).1.size
        intro v8 w8 hown8 hgrow8 hbel8
        have hq8 : w8.heap[B]? = W1.heap[B]? := (hbel8.block B hBL).trans ((Below.block ((Below.refl _ w5).alloc (Nat.le_refl _) _) B (by have := hm5.size; omega)).trans hq5)
        have hm8 : Mo B W1 w8 := (‹Mo B W1 _ ∧ _›).1.grow hbel8
        obtain ⟨a8, n8, c8, rfl⟩ := own_slice hown8
        have hc8 : w8.cell? ⟨B, kd * 10 + 9, none⟩ = some (.slice a L cap) := (cell_block hq8 _).trans C9.out
        refine hK.out _ _ ?_ (fun hHeld => ?_)
        · (try dsimp only); exact Sy.below hbel8 hTL hBL ‹Mo B W1 _ ∧ _›
        clear hK K
        try simp only [List.getElem_toArray, List.getElem_cons_zero, List.getElem_cons_succ, Act.put, List.setIfInBounds_toArray, List.set_cons_zero, List.set_cons_succ]
        refine wpAnyH_take (i := 20) (v := ?_) rfl (by kernel_rfl) (by kernel_rfl) (by kernel_rfl) (fun _ _ _ h => h) (Or.inl ⟨by rfl, ?_⟩) (by assumption) ?_
        rotate_left
        · (intro W hSw; (try dsimp only at hSw); go_simp; try with_reducible rfl)
        try simp only [List.getElem_toArray, List.getElem_cons_zero, List.getElem_cons_succ, Act.put, List.setIfInBounds_toArray, List.set_cons_zero, List.set_cons_succ]
        refine wpAnyH_take (i := 21) (v := ?_) rfl (by kernel_rfl) (by kernel_rfl) (by kernel_rfl) (fun _ _ _ h => h) (Or.inl ⟨by rfl, ?_⟩) (by assumption) ?_
        rotate_left
        · (intro W hSw; (try dsimp only at hSw); go_simp; try with_reducible rfl)
        try simp only [List.getElem_toArray, List.getElem_cons_zero, List.getElem_cons_succ, Act.put, List.setIfInBounds_toArray, List.set_cons_zero, List.set_cons_succ]
        refine wpAnyH_ready (rs := [22]) (by kernel_rfl) (by simp) ?_
        refine AllReadyH.cons rfl (fun K hK => ?_) AllReadyH.nil
        simp only [List.getElem_toArray, List.getElem_cons_zero, List.getElem_cons_succ]
        go_simp
        refine hK.out _ _ ?_ (fun hHeld => ?_)
        · (try dsimp only); exact Sy.set hTB ‹Mo B W1 _ ∧ _› _
        clear hK K
        try simp only [List.getElem_toArray, List.getElem_cons_zero, List.getElem_cons_succ, Act.put, List.setIfInBounds_toArray, List.set_cons_zero, List.set_cons_succ]
        refine wpAnyH_done (by kernel_rfl) ?_ _
        have hRF := Lib.hid ((HRF.out.moEq hm8 hq8).set hd2 (show 9 < 10 by omega) (.slice a8 n8 c8) { G1 kd with sl := .slice a8 n8 c8, ents := E ++ [(s, kx)] } rfl (ent_of hown8 (G1 kd) (E ++ [(s, kx)]) (by rw [List.length_append, ← HLE.out]; simp) (by rw [flatE_app, List.nil_append]; rfl)))
        have hMO := Lib.hid ((HM1.out.trans hm8).set (i := kd * 10 + 9) (.slice a8 n8 c8))
        clear hown8 hgrow8 hbel8 hown5 hgrow5 hbel5 hm8 hq8 hm5 hq5 hc8
        go_wp2
        go_ret
        refine ⟨rfl, .slice a8 n8 c8, ?_, hMO.out⟩
        rw [show (G1 kd).ents = E from HG.out]
        exact hRF.out
      refine AllReadyH.cons rfl (fun K hK => ?_) AllReadyH.nil
      simp only [List.getElem_toArray, List.getElem_cons_zero, List.getElem_cons_succ]
      go_simp
      refine hK.out _ _ ?_ (fun hHeld => ?_)
      · (try dsimp only); exact Sy.below ((Below.refl _ _).alloc (‹Mo B W1 _ ∧ _›).1.size _) hTL hBL ‹Mo B W1 _ ∧ _›
      clear hK K
      try simp only [List.getElem_toArray, List.getElem_cons_zero, List.getElem_cons_succ, Act.put, List.setIfInBounds_toArray, List.set_cons_zero, List.set_cons_succ]
      refine wpAnyH_ready (rs := [14]) (by kernel_rfl) (by simp) ?_
      refine AllReadyH.cons rfl (fun K hK => ?_) AllReadyH.nil
      refine step_app_row2 rfl (.tmp 105) (.tmp 113) 108 rfl W1.heap.size 126 i0 (.agg #[.string ⟨#[]⟩, .int .i64 0]) 24 Try.underlying108 hi0 hz0 hz1 hz2 rfl (.slice (some ⟨W1.heap.size, 0, none⟩) 0 0) 0 [] ?_ ?_ 0 (.slice a L cap) L (flatE E) ?_ ?_ ?_ ?_ ?_ ?_ ?_
      · simp [Act.eval, Act.put]; done
      · exact ((own_empty _ _ _ _ rfl (Nat.le_refl _)).below2 ((Below.refl _ _).alloc (Nat.le_refl _) _)).drew
      · simp [Act.eval, Act.put]; done
      · exact HSRC.out _ (‹Mo B W1 _ ∧ _›).1
      · exact fun u hu => flatE_one _ u hu
      · unfold maxLen; omega
      · omega
      · exact (‹Mo B W1 _ ∧ _›).1.size
      intro v5 w5 hown5 hgrow5 hbel5
      have hm5 : Mo B W1 w5 := (‹Mo B W1 _ ∧ _›).1.grow hbel5
      have hq5 : w5.heap[B]? = W1.heap[B]? := (hbel5.block B hBL).trans (Below.block ((((Below.refl W1.heap.size W1).drew).alloc (Nat.le_refl _) _).alloc (by simp) _) B hBL)
      refine hK.out _ _ ?_ (fun hHeld => ?_)
      · (try dsimp only); exact Sy.below hbel5 hTL hBL ‹Mo B W1 _ ∧ _›
      clear hK K
      try simp only [List.getElem_toArray, List.getElem_cons_zero, List.getElem_cons_succ, Act.put, List.setIfInBounds_toArray, List.set_cons_zero, List.set_cons_succ]
      refine wpAnyH_ready (rs := [19]) (by kernel_rfl) (by simp) ?_
      refine AllReadyH.cons rfl (fun K hK => ?_) AllReadyH.nil
      refine step_app_row2 rfl (.tmp 114) (.tmp 118) 108 rfl W1.heap.size 126 i0 (.agg #[.string ⟨#[]⟩, .int .i64 0]) 24 Try.underlying108 hi0 hz0 hz1 hz2 rfl v5 (0 + L) ([] ++ flatE E) ?_ ?_ 0 (.slice (some ⟨(W1.heap.size + 1), 0, none⟩) 1 1) 1 [.string s, .int .i64 (kx : Int)] ?_ ?_ ?_ ?_ ?_ ?_ ?_
      · simp [Act.eval, Act.put]; done
      · exact hown5
      · simp [Act.eval, Act.put]; done
      · exact ((own_one _ _ _ _ _ (by simp)).drew.kept hgrow5 (.inr (by simp [Value.ownBlock])))
      · exact fun u hu => by (simp only [List.mem_cons, List.not_mem_nil, or_false] at hu; rcases hu with rfl | rfl <;> rfl)
      · unfold maxLen; omega
      · omega
      · exact (‹Mo B W1 _ ∧ _›).1.size
      intro v8 w8 hown8 hgrow8 hbel8
      have hq8 : w8.heap[B]? = W1.heap[B]? := (hbel8.block B hBL).trans hq5
      have hm8 : Mo B W1 w8 := (‹Mo B W1 _ ∧ _›).1.grow hbel8
      obtain ⟨a8, n8, c8, rfl⟩ := own_slice hown8
      have hc8 : w8.cell? ⟨B, kd * 10 + 9, none⟩ = some (.slice a L cap) := (cell_block hq8 _).trans C9.out
      refine hK.out _ _ ?_ (fun hHeld => ?_)
      · (try dsimp only); exact Sy.below hbel8 hTL hBL ‹Mo B W1 _ ∧ _›
      clear hK K
      try simp only [List.getElem_toArray, List.getElem_cons_zero, List.getElem_cons_succ, Act.put, List.setIfInBounds_toArray, List.set_cons_zero, List.set_cons_succ]
      refine wpAnyH_take (i := 20) (v := ?_) rfl (by kernel_rfl) (by kernel_rfl) (by kernel_rfl) (fun _ _ _ h => h) (Or.inl ⟨by rfl, ?_⟩) (by assumption) ?_
      rotate_left
      · (intro W hSw; (try dsimp only at hSw); go_simp; try with_reducible rfl)
      try simp only [List.getElem_toArray, List.getElem_cons_zero, List.getElem_cons_succ, Act.put, List.setIfInBounds_toArray, List.set_cons_zero, List.set_cons_succ]
      refine wpAnyH_take (i := 21) (v := ?_) rfl (by kernel_rfl) (by kernel_rfl) (by kernel_rfl) (fun _ _ _ h => h) (Or.inl ⟨by rfl, ?_⟩) (by assumption) ?_
      rotate_left
      · (intro W hSw; (try dsimp only at hSw); go_simp; try with_reducible rfl)
      try simp only [List.getElem_toArray, List.getElem_cons_zero, List.getElem_cons_succ, Act.put, List.setIfInBounds_toArray, List.set_cons_zero, List.set_cons_succ]
      refine wpAnyH_ready (rs := [22]) (by kernel_rfl) (by simp) ?_
      refine AllReadyH.cons rfl (fun K hK => ?_) AllReadyH.nil
      simp only [List.getElem_toArray, List.getElem_cons_zero, List.getElem_cons_succ]
      go_simp
      refine hK.out _ _ ?_ (fun hHeld => ?_)
      · (try dsimp only); exact Sy.set hTB ‹Mo B W1 _ ∧ _› _
      clear hK K
      try simp only [List.getElem_toArray, List.getElem_cons_zero, List.getElem_cons_succ, Act.put, List.setIfInBounds_toArray, List.set_cons_zero, List.set_cons_succ]
      refine wpAnyH_done (by kernel_rfl) ?_ _
      have hRF := Lib.hid ((HRF.out.moEq hm8 hq8).set hd2 (show 9 < 10 by omega) (.slice a8 n8 c8) { G1 kd with sl := .slice a8 n8 c8, ents := E ++ [(s, kx)] } rfl (ent_of hown8 (G1 kd) (E ++ [(s, kx)]) (by rw [List.length_append, ← HLE.out]; simp) (by rw [flatE_app, List.nil_append]; rfl)))
      have hMO := Lib.hid ((HM1.out.trans hm8).set (i := kd * 10 + 9) (.slice a8 n8 c8))
      clear hown8 hgrow8 hbel8 hown5 hgrow5 hbel5 hm8 hq8 hm5 hq5 hc8
      go_wp2
      go_ret
      refine ⟨rfl, .slice a8 n8 c8, ?_, hMO.out⟩
      rw [show (G1 kd).ents = E from HG.out]
      exact hRF.out
    refine AllReadyH.cons rfl (fun K hK => ?_) AllReadyH.nil
    simp only [List.getElem_toArray, List.getElem_cons_zero, List.getElem_cons_succ]
    go_simp
    refine hK.out _ _ ?_ (fun hHeld => ?_)
    · (try dsimp only); exact Sy.below ((Below.refl _ _).alloc (‹Mo B W1 _ ∧ _›).1.size _) hTL hBL ‹Mo B W1 _ ∧ _›
    clear hK K
    try simp only [List.getElem_toArray, List.getElem_cons_zero, List.getElem_cons_succ, Act.put, List.setIfInBounds_toArray, List.set_cons_zero, List.set_cons_succ]
    refine wpAnyH_ready (rs := [13]) (by kernel_rfl) (by simp) ?_
    refine AllReadyH.cons rfl (fun K hK => ?_) AllReadyH.nil
    simp only [List.getElem_toArray, List.getElem_cons_zero, List.getElem_cons_succ]
    go_simp
    refine hK.out _ _ ?_ (fun hHeld => ?_)
    · (try dsimp only); assumption
    clear hK K
    try simp only [List.getElem_toArray, List.getElem_cons_zero, List.getElem_cons_succ, Act.put, List.setIfInBounds_toArray, List.set_cons_zero, List.set_cons_succ]
    refine wpAnyH_ready (rs := [14]) (by kernel_rfl) (by simp) ?_
    refine AllReadyH.cons rfl (fun K hK => ?_) AllReadyH.nil
    refine step_app_row2 rfl (.tmp 105) (.tmp 113) 108 rfl W1.heap.size 126 i0 (.agg #[.string ⟨#[]⟩, .int .i64 0]) 24 Try.underlying108 hi0 hz0 hz1 hz2 rfl (.slice (some ⟨W1.heap.size, 0, none⟩) 0 0) 0 [] ?_ ?_ 0 (.slice a L cap) L (flatE E) ?_ ?_ ?_ ?_ ?_ ?_ ?_
    · simp [Act.eval, Act.put]; done
    · exact ((own_empty _ _ _ _ rfl (Nat.le_refl _)).below2 ((Below.refl _ _).alloc (Nat.le_refl _) _)).drew
    · simp [Act.eval, Act.put]; done
    · exact HSRC.out _ (‹Mo B W1 _ ∧ _›).1
    · exact fun u hu => flatE_one _ u hu
    · unfold maxLen; omega
    · omega
    · exact (‹Mo B W1 _ ∧ _›).1.size
    intro v5 w5 hown5 hgrow5 hbel5
    have hm5 : Mo B W1 w5 := (‹Mo B W1 _ ∧ _›).1.grow hbel5
    have hq5 : w5.heap[B]? = W1.heap[B]? := (hbel5.block B hBL).trans (Below.block ((((Below.refl W1.heap.size W1).drew).alloc (Nat.le_refl _) _).alloc (by simp) _) B hBL)
    refine hK.out _ _ ?_ (fun hHeld => ?_)
    · (try dsimp only); exact Sy.below hbel5 hTL hBL ‹Mo B W1 _ ∧ _›
    clear hK K
    try simp only [List.getElem_toArray, List.getElem_cons_zero, List.getElem_cons_succ, Act.put, List.setIfInBounds_toArray, List.set_cons_zero, List.set_cons_succ]
    refine wpAnyH_ready (rs := [19]) (by kernel_rfl) (by simp) ?_
    refine AllReadyH.cons rfl (fun K hK => ?_) AllReadyH.nil
    refine step_app_row2 rfl (.tmp 114) (.tmp 118) 108 rfl W1.heap.size 126 i0 (.agg #[.string ⟨#[]⟩, .int .i64 0]) 24 Try.underlying108 hi0 hz0 hz1 hz2 rfl v5 (0 + L) ([] ++ flatE E) ?_ ?_ 0 (.slice (some ⟨(W1.heap.size + 1), 0, none⟩) 1 1) 1 [.string s, .int .i64 (kx : Int)] ?_ ?_ ?_ ?_ ?_ ?_ ?_
    · simp [Act.eval, Act.put]; done
    · exact hown5
    · simp [Act.eval, Act.put]; done
    · exact ((own_one _ _ _ _ _ (by simp)).drew.kept hgrow5 (.inr (by simp [Value.ownBlock])))
    · exact fun u hu => by (simp only [List.mem_cons, List.not_mem_nil, or_false] at hu; rcases hu with rfl | rfl <;> rfl)
    · unfold maxLen; omega
    · omega
    · exact (‹Mo B W1 _ ∧ _›).1.size
    intro v8 w8 hown8 hgrow8 hbel8
    have hq8 : w8.heap[B]? = W1.heap[B]? := (hbel8.block B hBL).trans hq5
    have hm8 : Mo B W1 w8 := (‹Mo B W1 _ ∧ _›).1.grow hbel8
    obtain ⟨a8, n8, c8, rfl⟩ := own_slice hown8
    have hc8 : w8.cell? ⟨B, kd * 10 + 9, none⟩ = some (.slice a L cap) := (cell_block hq8 _).trans C9.out
    refine hK.out _ _ ?_ (fun hHeld => ?_)
    · (try dsimp only); exact Sy.below hbel8 hTL hBL ‹Mo B W1 _ ∧ _›
    clear hK K
    try simp only [List.getElem_toArray, List.getElem_cons_zero, List.getElem_cons_succ, Act.put, List.setIfInBounds_toArray, List.set_cons_zero, List.set_cons_succ]
    refine wpAnyH_take (i := 20) (v := ?_) rfl (by kernel_rfl) (by kernel_rfl) (by kernel_rfl) (fun _ _ _ h => h) (Or.inl ⟨by rfl, ?_⟩) (by assumption) ?_
    rotate_left
    · (intro W hSw; (try dsimp only at hSw); go_simp; try with_reducible rfl)
    try simp only [List.getElem_toArray, List.getElem_cons_zero, List.getElem_cons_succ, Act.put, List.setIfInBounds_toArray, List.set_cons_zero, List.set_cons_succ]
    refine wpAnyH_take (i := 21) (v := ?_) rfl (by kernel_rfl) (by kernel_rfl) (by kernel_rfl) (fun _ _ _ h => h) (Or.inl ⟨by rfl, ?_⟩) (by assumption) ?_
    rotate_left
    · (intro W hSw; (try dsimp only at hSw); go_simp; try with_reducible rfl)
    try simp only [List.getElem_toArray, List.getElem_cons_zero, List.getElem_cons_succ, Act.put, List.setIfInBounds_toArray, List.set_cons_zero, List.set_cons_succ]
    refine wpAnyH_ready (rs := [22]) (by kernel_rfl) (by simp) ?_
    refine AllReadyH.cons rfl (fun K hK => ?_) AllReadyH.nil
    simp only [List.getElem_toArray, List.getElem_cons_zero, List.getElem_cons_succ]
    go_simp
    refine hK.out _ _ ?_ (fun hHeld => ?_)
    · (try dsimp only); exact Sy.set hTB ‹Mo B W1 _ ∧ _› _
    clear hK K
    try simp only [List.getElem_toArray, List.getElem_cons_zero, List.getElem_cons_succ, Act.put, List.setIfInBounds_toArray, List.set_cons_zero, List.set_cons_succ]
    refine wpAnyH_done (by kernel_rfl) ?_ _
    have hRF := Lib.hid ((HRF.out.moEq hm8 hq8).set hd2 (show 9 < 10 by omega) (.slice a8 n8 c8) { G1 kd with sl := .slice a8 n8 c8, ents := E ++ [(s, kx)] } rfl (ent_of hown8 (G1 kd) (E ++ [(s, kx)]) (by rw [List.length_append, ← HLE.out]; simp) (by rw [flatE_app, List.nil_append]; rfl)))
    have hMO := Lib.hid ((HM1.out.trans hm8).set (i := kd * 10 + 9) (.slice a8 n8 c8))
    clear hown8 hgrow8 hbel8 hown5 hgrow5 hbel5 hm8 hq8 hm5 hq5 hc8
    go_wp2
    go_ret
    refine ⟨rfl, .slice a8 n8 c8, ?_, hMO.out⟩
    rw [show (G1 kd).ents = E from HG.out]
    exact hRF.out
  refine AllReadyH.cons rfl (fun K hK => ?_) ?_
  · simp only [List.getElem_toArray, List.getElem_cons_zero, List.getElem_cons_succ]
    go_simp
    refine hK.out _ _ ?_ (fun hHeld => ?_)
    · (try dsimp only); assumption
    clear hK K
    try simp only [List.getElem_toArray, List.getElem_cons_zero, List.getElem_cons_succ, Act.put, List.setIfInBounds_toArray, List.set_cons_zero, List.set_cons_succ]
    refine wpAnyH_ready (rs := [5, 18]) (by kernel_rfl) (by simp) ?_
    refine AllReadyH.cons rfl (fun K hK => ?_) ?_
    · simp only [List.getElem_toArray, List.getElem_cons_zero, List.getElem_cons_succ]
      go_simp
      refine hK.out _ _ ?_ (fun hHeld => ?_)
      · (try dsimp only); exact Sy.below ((Below.refl _ _).alloc (‹Mo B W1 _ ∧ _›).1.size _) hTL hBL ‹Mo B W1 _ ∧ _›
      clear hK K
      try simp only [List.getElem_toArray, List.getElem_cons_zero, List.getElem_cons_succ, Act.put, List.setIfInBounds_toArray, List.set_cons_zero, List.set_cons_succ]
      refine wpAnyH_ready (rs := [14, 18]) (by kernel_rfl) (by simp) ?_
      refine AllReadyH.cons rfl (fun K hK => ?_) ?_
      · refine step_app_row2 rfl (.tmp 105) (.tmp 113) 108 rfl W1.heap.size 126 i0 (.agg #[.string ⟨#[]⟩, .int .i64 0]) 24 Try.underlying108 hi0 hz0 hz1 hz2 rfl (.slice (some ⟨W1.heap.size, 0, none⟩) 0 0) 0 [] ?_ ?_ 0 (.slice a L cap) L (flatE E) ?_ ?_ ?_ ?_ ?_ ?_ ?_
        · simp [Act.eval, Act.put]; done
        · exact (own_empty _ _ _ _ rfl (Nat.le_refl _)).drew
        · simp [Act.eval, Act.put]; done
        · exact HSRC.out _ (‹Mo B W1 _ ∧ _›).1
        · exact fun u hu => flatE_one _ u hu
        · unfold maxLen; omega
        · omega
        · exact (‹Mo B W1 _ ∧ _›).1.size
        intro v5 w5 hown5 hgrow5 hbel5
        have hm5 : Mo B W1 w5 := (‹Mo B W1 _ ∧ _›).1.grow hbel5
        have hq5 : w5.heap[B]? = W1.heap[B]? := (hbel5.block B hBL).trans (Below.block (((Below.refl W1.heap.size W1).drew).alloc (Nat.le_refl _) _) B hBL)
        refine hK.out _ _ ?_ (fun hHeld => ?_)
        · (try dsimp only); exact Sy.below hbel5 hTL hBL ‹Mo B W1 _ ∧ _›
        clear hK K
        try simp only [List.getElem_toArray, List.getElem_cons_zero, List.getElem_cons_succ, Act.put, List.setIfInBounds_toArray, List.set_cons_zero, List.set_cons_succ]
        refine wpAnyH_ready (rs := [18]) (by kernel_rfl) (by simp) ?_
        refine AllReadyH.cons rfl (fun K hK => ?_) AllReadyH.nil
        simp only [List.getElem_toArray, List.getElem_cons_zero, List.getElem_cons_succ]
        go_simp
        refine hK.out _ _ ?_ (fun hHeld => ?_)
        · (try dsimp only); exact Sy.below ((Below.refl _ _).alloc (‹Mo B W1 _ ∧ _›).1.size _) hTL hBL ‹Mo B W1 _ ∧ _›
        clear hK K
        try simp only [List.getElem_toArray, List.getElem_cons_zero, List.getElem_cons_succ, Act.put, List.setIfInBounds_toArray, List.set_cons_zero, List.set_cons_succ]
        refine wpAnyH_ready (rs := [19]) (by kernel_rfl) (by simp) ?_
        refine AllReadyH.cons rfl (fun K hK => ?_) AllReadyH.nil
        refine step_app_row2 rfl (.tmp 114) (.tmp 118) 108 rfl W1.heap.size 126 i0 (.agg #[.string ⟨#[]⟩, .int .i64 0]) 24 Try.underlying108 hi0 hz0 hz1 hz2 rfl v5 (0 + L) ([] ++ flatE E) ?_ ?_ 0 (.slice (some ⟨w5.heap.size, 0, none⟩) 1 1) 1 [.string s, .int .i64 (kx : Int)] ?_ ?_ ?_ ?_ ?_ ?_ ?_
        · simp [Act.eval, Act.put]; done
        · exact hown5.below2 ((Below.refl _ _).alloc (Nat.le_refl _) _)
        · simp [Act.eval, Act.put]; done
        · exact own_one _ _ _ _ _ rfl
        · exact fun u hu => by (simp only [List.mem_cons, List.not_mem_nil, or_false] at hu; rcases hu with rfl | rfl <;> rfl)
        · unfold maxLen; omega
        · omega
        · exact (‹Mo B W1 _ ∧ _›).1.size
        intro v8 w8 hown8 hgrow8 hbel8
        have hq8 : w8.heap[B]? = W1.heap[B]? := (hbel8.block B hBL).trans ((Below.block ((Below.refl _ w5).alloc (Nat.le_refl _) _) B (by have := hm5.size; omega)).trans hq5)
        have hm8 : Mo B W1 w8 := (‹Mo B W1 _ ∧ _›).1.grow hbel8
        obtain ⟨a8, n8, c8, rfl⟩ := own_slice hown8
        have hc8 : w8.cell? ⟨B, kd * 10 + 9, none⟩ = some (.slice a L cap) := (cell_block hq8 _).trans C9.out
        refine hK.out _ _ ?_ (fun hHeld => ?_)
        · (try dsimp only); exact Sy.below hbel8 hTL hBL ‹Mo B W1 _ ∧ _›
        clear hK K
        try simp only [List.getElem_toArray, List.getElem_cons_zero, List.getElem_cons_succ, Act.put, List.setIfInBounds_toArray, List.set_cons_zero, List.set_cons_succ]
        refine wpAnyH_take (i := 20) (v := ?_) rfl (by kernel_rfl) (by kernel_rfl) (by kernel_rfl) (fun _ _ _ h => h) (Or.inl ⟨by rfl, ?_⟩) (by assumption) ?_
        rotate_left
        · (intro W hSw; (try dsimp only at hSw); go_simp; try with_reducible rfl)
        try simp only [List.getElem_toArray, List.getElem_cons_zero, List.getElem_cons_succ, Act.put, List.setIfInBounds_toArray, List.set_cons_zero, List.set_cons_succ]
        refine wpAnyH_take (i := 21) (v := ?_) rfl (by kernel_rfl) (by kernel_rfl) (by kernel_rfl) (fun _ _ _ h => h) (Or.inl ⟨by rfl, ?_⟩) (by assumption) ?_
        rotate_left
        · (intro W hSw; (try dsimp only at hSw); go_simp; try with_reducible rfl)
        try simp only [List.getElem_toArray, List.getElem_cons_zero, List.getElem_cons_succ, Act.put, List.setIfInBounds_toArray, List.set_cons_zero, List.set_cons_succ]
        refine wpAnyH_ready (rs := [22]) (by kernel_rfl) (by simp) ?_
        refine AllReadyH.cons rfl (fun K hK => ?_) AllReadyH.nil
        simp only [List.getElem_toArray, List.getElem_cons_zero, List.getElem_cons_succ]
        go_simp
        refine hK.out _ _ ?_ (fun hHeld => ?_)
        · (try dsimp only); exact Sy.set hTB ‹Mo B W1 _ ∧ _› _
        clear hK K
        try simp only [List.getElem_toArray, List.getElem_cons_zero, List.getElem_cons_succ, Act.put, List.setIfInBounds_toArray, List.set_cons_zero, List.set_cons_succ]
        refine wpAnyH_done (by kernel_rfl) ?_ _
        have hRF := Lib.hid ((HRF.out.moEq hm8 hq8).set hd2 (show 9 < 10 by omega) (.slice a8 n8 c8) { G1 kd with sl := .slice a8 n8 c8, ents := E ++ [(s, kx)] } rfl (ent_of hown8 (G1 kd) (E ++ [(s, kx)]) (by rw [List.length_append, ← HLE.out]; simp) (by rw [flatE_app, List.nil_append]; rfl)))
        have hMO := Lib.hid ((HM1.out.trans hm8).set (i := kd * 10 + 9) (.slice a8 n8 c8))
        clear hown8 hgrow8 hbel8 hown5 hgrow5 hbel5 hm8 hq8 hm5 hq5 hc8
        go_wp2
        go_ret
        refine ⟨rfl, .slice a8 n8 c8, ?_, hMO.out⟩
        rw [show (G1 kd).ents = E from HG.out]
        exact hRF.out
      refine AllReadyH.cons rfl (fun K hK => ?_) AllReadyH.nil
      simp only [List.getElem_toArray, List.getElem_cons_zero, List.getElem_cons_succ]
      go_simp
      refine hK.out _ _ ?_ (fun hHeld => ?_)
      · (try dsimp only); exact Sy.below ((Below.refl _ _).alloc (‹Mo B W1 _ ∧ _›).1.size _) hTL hBL ‹Mo B W1 _ ∧ _›
      clear hK K
      try simp only [List.getElem_toArray, List.getElem_cons_zero, List.getElem_cons_succ, Act.put, List.setIfInBounds_toArray, List.set_cons_zero, List.set_cons_succ]
      refine wpAnyH_ready (rs := [14]) (by kernel_rfl) (by simp) ?_
      refine AllReadyH.cons rfl (fun K hK => ?_) AllReadyH.nil
      refine step_app_row2 rfl (.tmp 105) (.tmp 113) 108 rfl W1.heap.size 126 i0 (.agg #[.string ⟨#[]⟩, .int .i64 0]) 24 Try.underlying108 hi0 hz0 hz1 hz2 rfl (.slice (some ⟨W1.heap.size, 0, none⟩) 0 0) 0 [] ?_ ?_ 0 (.slice a L cap) L (flatE E) ?_ ?_ ?_ ?_ ?_ ?_ ?_
      · simp [Act.eval, Act.put]; done
      · exact ((own_empty _ _ _ _ rfl (Nat.le_refl _)).below2 ((Below.refl _ _).alloc (Nat.le_refl _) _)).drew
      · simp [Act.eval, Act.put]; done
      · exact HSRC.out _ (‹Mo B W1 _ ∧ _›).1
      · exact fun u hu => flatE_one _ u hu
      · unfold maxLen; omega
      · omega
      · exact (‹Mo B W1 _ ∧ _›).1.size
      intro v5 w5 hown5 hgrow5 hbel5
      have hm5 : Mo B W1 w5 := (‹Mo B W1 _ ∧ _›).1.grow hbel5
      have hq5 : w5.heap[B]? = W1.heap[B]? := (hbel5.block B hBL).trans (Below.block ((((Below.refl W1.heap.size W1).drew).alloc (Nat.le_refl _) _).alloc (by simp) _) B hBL)
      refine hK.out _ _ ?_ (fun hHeld => ?_)
      · (try dsimp only); exact Sy.below hbel5 hTL hBL ‹Mo B W1 _ ∧ _›
      clear hK K
      try simp only [List.getElem_toArray, List.getElem_cons_zero, List.getElem_cons_succ, Act.put, List.setIfInBounds_toArray, List.set_cons_zero, List.set_cons_succ]
      refine wpAnyH_ready (rs := [19]) (by kernel_rfl) (by simp) ?_
      refine AllReadyH.cons rfl (fun K hK => ?_) AllReadyH.nil
      refine step_app_row2 rfl (.tmp 114) (.tmp 118) 108 rfl W1.heap.size 126 i0 (.agg #[.string ⟨#[]⟩, .int .i64 0]) 24 Try.underlying108 hi0 hz0 hz1 hz2 rfl v5 (0 + L) ([] ++ flatE E) ?_ ?_ 0 (.slice (some ⟨(W1.heap.size + 1), 0, none⟩) 1 1) 1 [.string s, .int .i64 (kx : Int)] ?_ ?_ ?_ ?_ ?_ ?_ ?_
      · simp [Act.eval, Act.put]; done
      · exact hown5
      · simp [Act.eval, Act.put]; done
      · exact ((own_one _ _ _ _ _ (by simp)).drew.kept hgrow5 (.inr (by simp [Value.ownBlock])))
      · exact fun u hu => by (simp only [List.mem_cons, List.not_mem_nil, or_false] at hu; rcases hu with rfl | rfl <;> rfl)
      · unfold maxLen; omega
      · omega
      · exact (‹Mo B W1 _ ∧ _›).1.size
      intro v8 w8 hown8 hgrow8 hbel8
      have hq8 : w8.heap[B]? = W1.heap[B]? := (hbel8.block B hBL).trans hq5
      have hm8 : Mo B W1 w8 := (‹Mo B W1 _ ∧ _›).1.grow hbel8
      obtain ⟨a8, n8, c8, rfl⟩ := own_slice hown8
      have hc8 : w8.cell? ⟨B, kd * 10 + 9, none⟩ = some (.slice a L cap) := (cell_block hq8 _).trans C9.out
      refine hK.out _ _ ?_ (fun hHeld => ?_)
      · (try dsimp only); exact Sy.below hbel8 hTL hBL ‹Mo B W1 _ ∧ _›
      clear hK K
      try simp only [List.getElem_toArray, List.getElem_cons_zero, List.getElem_cons_succ, Act.put, List.setIfInBounds_toArray, List.set_cons_zero, List.set_cons_succ]
      refine wpAnyH_take (i := 20) (v := ?_) rfl (by kernel_rfl) (by kernel_rfl) (by kernel_rfl) (fun _ _ _ h => h) (Or.inl ⟨by rfl, ?_⟩) (by assumption) ?_
      rotate_left
      · (intro W hSw; (try dsimp only at hSw); go_simp; try with_reducible rfl)
      try simp only [List.getElem_toArray, List.getElem_cons_zero, List.getElem_cons_succ, Act.put, List.setIfInBounds_toArray, List.set_cons_zero, List.set_cons_succ]
      refine wpAnyH_take (i := 21) (v := ?_) rfl (by kernel_rfl) (by kernel_rfl) (by kernel_rfl) (fun _ _ _ h => h) (Or.inl ⟨by rfl, ?_⟩) (by assumption) ?_
      rotate_left
      · (intro W hSw; (try dsimp only at hSw); go_simp; try with_reducible rfl)
      try simp only [List.getElem_toArray, List.getElem_cons_zero, List.getElem_cons_succ, Act.put, List.setIfInBounds_toArray, List.set_cons_zero, List.set_cons_succ]
      refine wpAnyH_ready (rs := [22]) (by kernel_rfl) (by simp) ?_
      refine AllReadyH.cons rfl (fun K hK => ?_) AllReadyH.nil
      simp only [List.getElem_toArray, List.getElem_cons_zero, List.getElem_cons_succ]
      go_simp
      refine hK.out _ _ ?_ (fun hHeld => ?_)
      · (try dsimp only); exact Sy.set hTB ‹Mo B W1 _ ∧ _› _
      clear hK K
      try simp only [List.getElem_toArray, List.getElem_cons_zero, List.getElem_cons_succ, Act.put, List.setIfInBounds_toArray, List.set_cons_zero, List.set_cons_succ]
      refine wpAnyH_done (by kernel_rfl) ?_ _
      have hRF := Lib.hid ((HRF.out.moEq hm8 hq8).set hd2 (show 9 < 10 by omega) (.slice a8 n8 c8) { G1 kd with sl := .slice a8 n8 c8, ents := E ++ [(s, kx)] } rfl (ent_of hown8 (G1 kd) (E ++ [(s, kx)]) (by rw [List.length_append, ← HLE.out]; simp) (by rw [flatE_app, List.nil_append]; rfl)))
      have hMO := Lib.hid ((HM1.out.trans hm8).set (i := kd * 10 + 9) (.slice a8 n8 c8))
      clear hown8 hgrow8 hbel8 hown5 hgrow5 hbel5 hm8 hq8 hm5 hq5 hc8
      go_wp2
      go_ret
      refine ⟨rfl, .slice a8 n8 c8, ?_, hMO.out⟩
      rw [show (G1 kd).ents = E from HG.out]
      exact hRF.out
    refine AllReadyH.cons rfl (fun K hK => ?_) AllReadyH.nil
    simp only [List.getElem_toArray, List.getElem_cons_zero, List.getElem_cons_succ]
    go_simp
    refine hK.out _ _ ?_ (fun hHeld => ?_)
    · (try dsimp only); exact Sy.below ((Below.refl _ _).alloc (‹Mo B W1 _ ∧ _›).1.size _) hTL hBL ‹Mo B W1 _ ∧ _›
    clear hK K
    try simp only [List.getElem_toArray, List.getElem_cons_zero, List.getElem_cons_succ, Act.put, List.setIfInBounds_toArray, List.set_cons_zero, List.set_cons_succ]
    refine wpAnyH_ready (rs := [5]) (by kernel_rfl) (by simp) ?_
    refine AllReadyH.cons rfl (fun K hK => ?_) AllReadyH.nil
    simp only [List.getElem_toArray, List.getElem_cons_zero, List.getElem_cons_succ]
    go_simp
    refine hK.out _ _ ?_ (fun hHeld => ?_)
    · (try dsimp only); exact Sy.below ((Below.refl _ _).alloc (‹Mo B W1 _ ∧ _›).1.size _) hTL hBL ‹Mo B W1 _ ∧ _›
    clear hK K
    try simp only [List.getElem_toArray, List.getElem_cons_zero, List.getElem_cons_succ, Act.put, List.setIfInBounds_toArray, List.set_cons_zero, List.set_cons_succ]
    refine wpAnyH_ready (rs := [14]) (by kernel_rfl) (by simp) ?_
    refine AllReadyH.cons rfl (fun K hK => ?_) AllReadyH.nil
    refine step_app_row2 rfl (.tmp 105) (.tmp 113) 108 rfl W1.heap.size 126 i0 (.agg #[.string ⟨#[]⟩, .int .i64 0]) 24 Try.underlying108 hi0 hz0 hz1 hz2 rfl (.slice (some ⟨(W1.heap.size + 1), 0, none⟩) 0 0) 0 [] ?_ ?_ 0 (.slice a L cap) L (flatE E) ?_ ?_ ?_ ?_ ?_ ?_ ?_
    · simp [Act.eval, Act.put]; done
    · exact (own_empty _ _ _ _ (by simp) (by simp)).drew
    · simp [Act.eval, Act.put]; done
    · exact HSRC.out _ (‹Mo B W1 _ ∧ _›).1
    · exact fun u hu => flatE_one _ u hu
    · unfold maxLen; omega
    · omega
    · exact (‹Mo B W1 _ ∧ _›).1.size
    intro v5 w5 hown5 hgrow5 hbel5
    have hm5 : Mo B W1 w5 := (‹Mo B W1 _ ∧ _›).1.grow hbel5
    have hq5 : w5.heap[B]? = W1.heap[B]? := (hbel5.block B hBL).trans (Below.block ((((Below.refl W1.heap.size W1).drew).alloc (Nat.le_refl _) _).alloc (by simp) _) B hBL)
    refine hK.out _ _ ?_ (fun hHeld => ?_)
    · (try dsimp only); exact Sy.below hbel5 hTL hBL ‹Mo B W1 _ ∧ _›
    clear hK K
    try simp only [List.getElem_toArray, List.getElem_cons_zero, List.getElem_cons_succ, Act.put, List.setIfInBounds_toArray, List.set_cons_zero, List.set_cons_succ]
    refine wpAnyH_ready (rs := [19]) (by kernel_rfl) (by simp) ?_
    refine AllReadyH.cons rfl (fun K hK => ?_) AllReadyH.nil
    refine step_app_row2 rfl (.tmp 114) (.tmp 118) 108 rfl W1.heap.size 126 i0 (.agg #[.string ⟨#[]⟩, .int .i64 0]) 24 Try.underlying108 hi0 hz0 hz1 hz2 rfl v5 (0 + L) ([] ++ flatE E) ?_ ?_ 0 (.slice (some ⟨W1.heap.size, 0, none⟩) 1 1) 1 [.string s, .int .i64 (kx : Int)] ?_ ?_ ?_ ?_ ?_ ?_ ?_
    · simp [Act.eval, Act.put]; done
    · exact hown5
    · simp [Act.eval, Act.put]; done
    · exact (((own_one _ _ _ _ _ rfl).below2 ((Below.refl _ _).alloc (Nat.le_refl _) _)).drew.kept hgrow5 (.inr (by simp [Value.ownBlock])))
    · exact fun u hu => by (simp only [List.mem_cons, List.not_mem_nil, or_false] at hu; rcases hu with rfl | rfl <;> rfl)
    · unfold maxLen; omega
    · omega
    · exact (‹Mo B W1 _ ∧ _›).1.size
    intro v8 w8 hown8 hgrow8 hbel8
    have hq8 : w8.heap[B]? = W1.heap[B]? := (hbel8.block B hBL).trans hq5
    have hm8 : Mo B W1 w8 := (‹Mo B W1 _ ∧ _›).1.grow hbel8
    obtain ⟨a8, n8, c8, rfl⟩ := own_slice hown8
    have hc8 : w8.cell? ⟨B, kd * 10 + 9, none⟩ = some (.slice a L cap) := (cell_block hq8 _).trans C9.out
    refine hK.out _ _ ?_ (fun hHeld => ?_)
    · (try dsimp only); exact Sy.below hbel8 hTL hBL ‹Mo B W1 _ ∧ _›
    clear hK K
    try simp only [List.getElem_toArray, List.getElem_cons_zero, List.getElem_cons_succ, Act.put, List.setIfInBounds_toArray, List.set_cons_zero, List.set_cons_succ]
    refine wpAnyH_take (i := 20) (v := ?_) rfl (by kernel_rfl) (by kernel_rfl) (by kernel_rfl) (fun _ _ _ h => h) (Or.inl ⟨by rfl, ?_⟩) (by assumption) ?_
    rotate_left
    · (intro W hSw; (try dsimp only at hSw); go_simp; try with_reducible rfl)
    try simp only [List.getElem_toArray, List.getElem_cons_zero, List.getElem_cons_succ, Act.put, List.setIfInBounds_toArray, List.set_cons_zero, List.set_cons_succ]
    refine wpAnyH_take (i := 21) (v := ?_) rfl (by kernel_rfl) (by kernel_rfl) (by kernel_rfl) (fun _ _ _ h => h) (Or.inl ⟨by rfl, ?_⟩) (by assumption) ?_
    rotate_left
    · (intro W hSw; (try dsimp only at hSw); go_simp; try with_reducible rfl)
    try simp only [List.getElem_toArray, List.getElem_cons_zero, List.getElem_cons_succ, Act.put, List.setIfInBounds_toArray, List.set_cons_zero, List.set_cons_succ]
    refine wpAnyH_ready (rs := [22]) (by kernel_rfl) (by simp) ?_
    refine AllReadyH.cons rfl (fun K hK => ?_) AllReadyH.nil
    simp only [List.getElem_toArray, List.getElem_cons_zero, List.getElem_cons_succ]
    go_simp
    refine hK.out _ _ ?_ (fun hHeld => ?_)
    · (try dsimp only); exact Sy.set hTB ‹Mo B W1 _ ∧ _› _
    clear hK K
    try simp only [List.getElem_toArray, List.getElem_cons_zero, List.getElem_cons_succ, Act.put, List.setIfInBounds_toArray, List.set_cons_zero, List.set_cons_succ]
    refine wpAnyH_done (by kernel_rfl) ?_ _
    have hRF := Lib.hid ((HRF.out.moEq hm8 hq8).set hd2 (show 9 < 10 by omega) (.slice a8 n8 c8) { G1 kd with sl := .slice a8 n8 c8, ents := E ++ [(s, kx)] } rfl (ent_of hown8 (G1 kd) (E ++ [(s, kx)]) (by rw [List.length_append, ← HLE.out]; simp) (by rw [flatE_app, List.nil_append]; rfl)))
    have hMO := Lib.hid ((HM1.out.trans hm8).set (i := kd * 10 + 9) (.slice a8 n8 c8))
    clear hown8 hgrow8 hbel8 hown5 hgrow5 hbel5 hm8 hq8 hm5 hq5 hc8
    go_wp2
    go_ret
    refine ⟨rfl, .slice a8 n8 c8, ?_, hMO.out⟩
    rw [show (G1 kd).ents = E from HG.out]
    exact hRF.out
  refine AllReadyH.cons rfl (fun K hK => ?_) AllReadyH.nil
  simp only [List.getElem_toArray, List.getElem_cons_zero, List.getElem_cons_succ]
  go_simp
  refine hK.out _ _ ?_ (fun hHeld => ?_)
  · (try dsimp only); exact Sy.below ((Below.refl _ _).alloc (‹Mo B W1 _ ∧ _›).1.size _) hTL hBL ‹Mo B W1 _ ∧ _›
  clear hK K
  try simp only [List.getElem_toArray, List.getElem_cons_zero, List.getElem_cons_succ, Act.put, List.setIfInBounds_toArray, List.set_cons_zero, List.set_cons_succ]
  refine wpAnyH_ready (rs := [5, 13]) (by kernel_rfl) (by simp) ?_
  refine AllReadyH.cons rfl (fun K hK => ?_) ?_
  · simp only [List.getElem_toArray, List.getElem_cons_zero, List.getElem_cons_succ]
    go_simp
    refine hK.out _ _ ?_ (fun hHeld => ?_)
    · (try dsimp only); exact Sy.below ((Below.refl _ _).alloc (‹Mo B W1 _ ∧ _›).1.size _) hTL hBL ‹Mo B W1 _ ∧ _›
    clear hK K
    try simp only [List.getElem_toArray, List.getElem_cons_zero, List.getElem_cons_succ, Act.put, List.setIfInBounds_toArray, List.set_cons_zero, List.set_cons_succ]
    refine wpAnyH_ready (rs := [13]) (by kernel_rfl) (by simp) ?_
    refine AllReadyH.cons rfl (fun K hK => ?_) AllReadyH.nil
    simp only [List.getElem_toArray, List.getElem_cons_zero, List.getElem_cons_succ]
    go_simp
    refine hK.out _ _ ?_ (fun hHeld => ?_)
    · (try dsimp only); assumption
    clear hK K
    try simp only [List.getElem_toArray, List.getElem_cons_zero, List.getElem_cons_succ, Act.put, List.setIfInBounds_toArray, List.set_cons_zero, List.set_cons_succ]
    refine wpAnyH_ready (rs := [14]) (by kernel_rfl) (by simp) ?_
    refine AllReadyH.cons rfl (fun K hK => ?_) AllReadyH.nil
    refine step_app_row2 rfl (.tmp 105) (.tmp 113) 108 rfl W1.heap.size 126 i0 (.agg #[.string ⟨#[]⟩, .int .i64 0]) 24 Try.underlying108 hi0 hz0 hz1 hz2 rfl (.slice (some ⟨(W1.heap.size + 1), 0, none⟩) 0 0) 0 [] ?_ ?_ 0 (.slice a L cap) L (flatE E) ?_ ?_ ?_ ?_ ?_ ?_ ?_
    · simp [Act.eval, Act.put]; done
    · exact (own_empty _ _ _ _ (by simp) (by simp)).drew
    · simp [Act.eval, Act.put]; done
    · exact HSRC.out _ (‹Mo B W1 _ ∧ _›).1
    · exact fun u hu => flatE_one _ u hu
    · unfold maxLen; omega
    · omega
    · exact (‹Mo B W1 _ ∧ _›).1.size
    intro v5 w5 hown5 hgrow5 hbel5
    have hm5 : Mo B W1 w5 := (‹Mo B W1 _ ∧ _›).1.grow hbel5
    have hq5 : w5.heap[B]? = W1.heap[B]? := (hbel5.block B hBL).trans (Below.block ((((Below.refl W1.heap.size W1).drew).alloc (Nat.le_refl _) _).alloc (by simp) _) B hBL)
    refine hK.out _ _ ?_ (fun hHeld => ?_)
    · (try dsimp only); exact Sy.below hbel5 hTL hBL ‹Mo B W1 _ ∧ _›
    clear hK K
    try simp only [List.getElem_toArray, List.getElem_cons_zero, List.getElem_cons_succ, Act.put, List.setIfInBounds_toArray, List.set_cons_zero, List.set_cons_succ]
    refine wpAnyH_ready (rs := [19]) (by kernel_rfl) (by simp) ?_
    refine AllReadyH.cons rfl (fun K hK => ?_) AllReadyH.nil
    refine step_app_row2 rfl (.tmp 114) (.tmp 118) 108 rfl W1.heap.size 126 i0 (.agg #[.string ⟨#[]⟩, .int .i64 0]) 24 Try.underlying108 hi0 hz0 hz1 hz2 rfl v5 (0 + L) ([] ++ flatE E) ?_ ?_ 0 (.slice (some ⟨W1.heap.size, 0, none⟩) 1 1) 1 [.string s, .int .i64 (kx : Int)] ?_ ?_ ?_ ?_ ?_ ?_ ?_
    · simp [Act.eval, Act.put]; done
    · exact hown5
    · simp [Act.eval, Act.put]; done
    · exact (((own_one _ _ _ _ _ rfl).below2 ((Below.refl _ _).alloc (Nat.le_refl _) _)).drew.kept hgrow5 (.inr (by simp [Value.ownBlock])))
    · exact fun u hu => by (simp only [List.mem_cons, List.not_mem_nil, or_false] at hu; rcases hu with rfl | rfl <;> rfl)
    · unfold maxLen; omega
    · omega
    · exact (‹Mo B W1 _ ∧ _›).1.size
    intro v8 w8 hown8 hgrow8 hbel8
    have hq8 : w8.heap[B]? = W1.heap[B]? := (hbel8.block B hBL).trans hq5
    have hm8 : Mo B W1 w8 := (‹Mo B W1 _ ∧ _›).1.grow hbel8
    obtain ⟨a8, n8, c8, rfl⟩ := own_slice hown8
    have hc8 : w8.cell? ⟨B, kd * 10 + 9, none⟩ = some (.slice a L cap) := (cell_block hq8 _).trans C9.out
    refine hK.out _ _ ?_ (fun hHeld => ?_)
    · (try dsimp only); exact Sy.below hbel8 hTL hBL ‹Mo B W1 _ ∧ _›
    clear hK K
    try simp only [List.getElem_toArray, List.getElem_cons_zero, List.getElem_cons_succ, Act.put, List.setIfInBounds_toArray, List.set_cons_zero, List.set_cons_succ]
    refine wpAnyH_take (i := 20) (v := ?_) rfl (by kernel_rfl) (by kernel_rfl) (by kernel_rfl) (fun _ _ _ h => h) (Or.inl ⟨by rfl, ?_⟩) (by assumption) ?_
    rotate_left
    · (intro W hSw; (try dsimp only at hSw); go_simp; try with_reducible rfl)
    try simp only [List.getElem_toArray, List.getElem_cons_zero, List.getElem_cons_succ, Act.put, List.setIfInBounds_toArray, List.set_cons_zero, List.set_cons_succ]
    refine wpAnyH_take (i := 21) (v := ?_) rfl (by kernel_rfl) (by kernel_rfl) (by kernel_rfl) (fun _ _ _ h => h) (Or.inl ⟨by rfl, ?_⟩) (by assumption) ?_
    rotate_left
    · (intro W hSw; (try dsimp only at hSw); go_simp; try with_reducible rfl)
    try simp only [List.getElem_toArray, List.getElem_cons_zero, List.getElem_cons_succ, Act.put, List.setIfInBounds_toArray, List.set_cons_zero, List.set_cons_succ]
    refine wpAnyH_ready (rs := [22]) (by kernel_rfl) (by simp) ?_
    refine AllReadyH.cons rfl (fun K hK => ?_) AllReadyH.nil
    simp only [List.getElem_toArray, List.getElem_cons_zero, List.getElem_cons_succ]
    go_simp
    refine hK.out _ _ ?_ (fun hHeld => ?_)
    · (try dsimp only); exact Sy.set hTB ‹Mo B W1 _ ∧ _› _
    clear hK K
    try simp only [List.getElem_toArray, List.getElem_cons_zero, List.getElem_cons_succ, Act.put, List.setIfInBounds_toArray, List.set_cons_zero, List.set_cons_succ]
    refine wpAnyH_done (by kernel_rfl) ?_ _
    have hRF := Lib.hid ((HRF.out.moEq hm8 hq8).set hd2 (show 9 < 10 by omega) (.slice a8 n8 c8) { G1 kd with sl := .slice a8 n8 c8, ents := E ++ [(s, kx)] } rfl (ent_of hown8 (G1 kd) (E ++ [(s, kx)]) (by rw [List.length_append, ← HLE.out]; simp) (by rw [flatE_app, List.nil_append]; rfl)))
    have hMO := Lib.hid ((HM1.out.trans hm8).set (i := kd * 10 + 9) (.slice a8 n8 c8))
    clear hown8 hgrow8 hbel8 hown5 hgrow5 hbel5 hm8 hq8 hm5 hq5 hc8
    go_wp2
    go_ret
    refine ⟨rfl, .slice a8 n8 c8, ?_, hMO.out⟩
    rw [show (G1 kd).ents = E from HG.out]
    exact hRF.out
  refine AllReadyH.cons rfl (fun K hK => ?_) AllReadyH.nil
  simp only [List.getElem_toArray, List.getElem_cons_zero, List.getElem_cons_succ]
  go_simp
  refine hK.out _ _ ?_ (fun hHeld => ?_)
  · (try dsimp only); assumption
  clear hK K
  try simp only [List.getElem_toArray, List.getElem_cons_zero, List.getElem_cons_succ, Act.put, List.setIfInBounds_toArray, List.set_cons_zero, List.set_cons_succ]
  refine wpAnyH_ready (rs := [5]) (by kernel_rfl) (by simp) ?_
  refine AllReadyH.cons rfl (fun K hK => ?_) AllReadyH.nil
  simp only [List.getElem_toArray, List.getElem_cons_zero, List.getElem_cons_succ]
  go_simp
  refine hK.out _ _ ?_ (fun hHeld => ?_)
  · (try dsimp only); exact Sy.below ((Below.refl _ _).alloc (‹Mo B W1 _ ∧ _›).1.size _) hTL hBL ‹Mo B W1 _ ∧ _›
  clear hK K
  try simp only [List.getElem_toArray, List.getElem_cons_zero, List.getElem_cons_succ, Act.put, List.setIfInBounds_toArray, List.set_cons_zero, List.set_cons_succ]
  refine wpAnyH_ready (rs := [14]) (by kernel_rfl) (by simp) ?_
  refine AllReadyH.cons rfl (fun K hK => ?_) AllReadyH.nil
  refine step_app_row2 rfl (.tmp 105) (.tmp 113) 108 rfl W1.heap.size 126 i0 (.agg #[.string ⟨#[]⟩, .int .i64 0]) 24 Try.underlying108 hi0 hz0 hz1 hz2 rfl (.slice (some ⟨(W1.heap.size + 1), 0, none⟩) 0 0) 0 [] ?_ ?_ 0 (.slice a L cap) L (flatE E) ?_ ?_ ?_ ?_ ?_ ?_ ?_
  · simp [Act.eval, Act.put]; done
  · exact (own_empty _ _ _ _ (by simp) (by simp)).drew
  · simp [Act.eval, Act.put]; done
  · exact HSRC.out _ (‹Mo B W1 _ ∧ _›).1
  · exact fun u hu => flatE_one _ u hu
  · unfold maxLen; omega
  · omega
  · exact (‹Mo B W1 _ ∧ _›).1.size
  intro v5 w5 hown5 hgrow5 hbel5
  have hm5 : Mo B W1 w5 := (‹Mo B W1 _ ∧ _›).1.grow hbel5
  have hq5 : w5.heap[B]? = W1.heap[B]? := (hbel5.block B hBL).trans (Below.block ((((Below.refl W1.heap.size W1).drew).alloc (Nat.le_refl _) _).alloc (by simp) _) B hBL)
  refine hK.out _ _ ?_ (fun hHeld => ?_)
  · (try dsimp only); exact Sy.below hbel5 hTL hBL ‹Mo B W1 _ ∧ _›
  clear hK K
  try simp only [List.getElem_toArray, List.getElem_cons_zero, List.getElem_cons_succ, Act.put, List.setIfInBounds_toArray, List.set_cons_zero, List.set_cons_succ]
  refine wpAnyH_ready (rs := [19]) (by kernel_rfl) (by simp) ?_
  refine AllReadyH.cons rfl (fun K hK => ?_) AllReadyH.nil
  refine step_app_row2 rfl (.tmp 114) (.tmp 118) 108 rfl W1.heap.size 126 i0 (.agg #[.string ⟨#[]⟩, .int .i64 0]) 24 Try.underlying108 hi0 hz0 hz1 hz2 rfl v5 (0 + L) ([] ++ flatE E) ?_ ?_ 0 (.slice (some ⟨W1.heap.size, 0, none⟩) 1 1) 1 [.string s, .int .i64 (kx : Int)] ?_ ?_ ?_ ?_ ?_ ?_ ?_
  · simp [Act.eval, Act.put]; done
  · exact hown5
  · simp [Act.eval, Act.put]; done
  · exact (((own_one _ _ _ _ _ rfl).below2 ((Below.refl _ _).alloc (Nat.le_refl _) _)).drew.kept hgrow5 (.inr (by simp [Value.ownBlock])))
  · exact fun u hu => by (simp only [List.mem_cons, List.not_mem_nil, or_false] at hu; rcases hu with rfl | rfl <;> rfl)
  · unfold maxLen; omega
  · omega
  · exact (‹Mo B W1 _ ∧ _›).1.size
  intro v8 w8 hown8 hgrow8 hbel8
  have hq8 : w8.heap[B]? = W1.heap[B]? := (hbel8.block B hBL).trans hq5
  have hm8 : Mo B W1 w8 := (‹Mo B W1 _ ∧ _›).1.grow hbel8
  obtain ⟨a8, n8, c8, rfl⟩ := own_slice hown8
  have hc8 : w8.cell? ⟨B, kd * 10 + 9, none⟩ = some (.slice a L cap) := (cell_block hq8 _).trans C9.out
  refine hK.out _ _ ?_ (fun hHeld => ?_)
  · (try dsimp only); exact Sy.below hbel8 hTL hBL ‹Mo B W1 _ ∧ _›
  clear hK K
  try simp only [List.getElem_toArray, List.getElem_cons_zero, List.getElem_cons_succ, Act.put, List.setIfInBounds_toArray, List.set_cons_zero, List.set_cons_succ]
  refine wpAnyH_take (i := 20) (v := ?_) rfl (by kernel_rfl) (by kernel_rfl) (by kernel_rfl) (fun _ _ _ h => h) (Or.inl ⟨by rfl, ?_⟩) (by assumption) ?_
  rotate_left
  · (intro W hSw; (try dsimp only at hSw); go_simp; try with_reducible rfl)
  try simp only [List.getElem_toArray, List.getElem_cons_zero, List.getElem_cons_succ, Act.put, List.setIfInBounds_toArray, List.set_cons_zero, List.set_cons_succ]
  refine wpAnyH_take (i := 21) (v := ?_) rfl (by kernel_rfl) (by kernel_rfl) (by kernel_rfl) (fun _ _ _ h => h) (Or.inl ⟨by rfl, ?_⟩) (by assumption) ?_
  rotate_left
  · (intro W hSw; (try dsimp only at hSw); go_simp; try with_reducible rfl)
  try simp only [List.getElem_toArray, List.getElem_cons_zero, List.getElem_cons_succ, Act.put, List.setIfInBounds_toArray, List.set_cons_zero, List.set_cons_succ]
  refine wpAnyH_ready (rs := [22]) (by kernel_rfl) (by simp) ?_
  refine AllReadyH.cons rfl (fun K hK => ?_) AllReadyH.nil
  simp only [List.getElem_toArray, List.getElem_cons_zero, List.getElem_cons_succ]
  go_simp
  refine hK.out _ _ ?_ (fun hHeld => ?_)
  · (try dsimp only); exact Sy.set hTB ‹Mo B W1 _ ∧ _› _
  clear hK K
  try simp only [List.getElem_toArray, List.getElem_cons_zero, List.getElem_cons_succ, Act.put, List.setIfInBounds_toArray, List.set_cons_zero, List.set_cons_succ]
  refine wpAnyH_done (by kernel_rfl) ?_ _
  have hRF := Lib.hid ((HRF.out.moEq hm8 hq8).set hd2 (show 9 < 10 by omega) (.slice a8 n8 c8) { G1 kd with sl := .slice a8 n8 c8, ents := E ++ [(s, kx)] } rfl (ent_of hown8 (G1 kd) (E ++ [(s, kx)]) (by rw [List.length_append, ← HLE.out]; simp) (by rw [flatE_app, List.nil_append]; rfl)))
  have hMO := Lib.hid ((HM1.out.trans hm8).set (i := kd * 10 + 9) (.slice a8 n8 c8))
  clear hown8 hgrow8 hbel8 hown5 hgrow5 hbel5 hm8 hq8 hm5 hq5 hc8
  go_wp2
  go_ret
  refine ⟨rfl, .slice a8 n8 c8, ?_, hMO.out⟩
  rw [show (G1 kd).ents = E from HG.out]
  exact hRF.out
end Go.Proofs.Ytafonmnfeibaiaa.RF
namespace Go.Proofs.Ytafonmnfeibaiaa.RF
open Go.RowKit Classical

/-! ### the document's tree: Enter, all its answers -/
theorem ents_app (l : List (ByteArray × Nat)) (s : ByteArray) (x : Nat) : ents (l ++ [(s, x)]) = ents l ++ [(bs s, x)] := by
  unfold ents; rw [List.map_append]; rfl
/-- An entry more, in a row that the tree keeps. -/
theorem Tie.more {G : Gt} {T : IT.Tr} (h : Tie G T) {d x : Nat} {n : IT.Nd} (hd : T d = some n) (s : ByteArray) (v : Value) : Tie (updG G d { G d with sl := v, ents := (G d).ents ++ [(s, x)] }) (IT.upd T d (some { n with names := IT.insN (bs s) x n.names })) := by
  have hk := h.sok d n hd
  exact h.set d ⟨hk.is, hk.kind, hk.mode, hk.owner, hk.group, hk.tty, hk.holds, hk.parent, hk.data, by
    show (ents ((G d).ents ++ [(s, x)])).Perm (IT.insN (bs s) x n.names)
    rw [ents_app]
    exact (List.Perm.append_right _ hk.names).trans (IT.perm_ins (List.Perm.refl _) _ _)⟩
theorem upd_self {T : IT.Tr} {x : Nat} {m : IT.Nd} (hx : T x = some m) : IT.upd T x (some m) = T := by
  funext j
  unfold IT.upd
  by_cases e : j = x
  · rw [if_pos e, e, hx]
  · rw [if_neg e]
theorem rf_enter {w : World} {t B : Nat} {G : Gt} {T : IT.Tr} (h : Trf w t B G T) (d x : Int) (s : ByteArray) :
    Calls Try.prog 65 #[.pointer (some ⟨t, 0, none⟩), .int .i64 d, .string s, .int .i64 x] w fun e w' => ∃ r, e = .returned (.int .i64 r) ∧ Stf w t B (fun T' => IT.isEnter okN T d.toNat (bs s) x.toNat r T') w' := by
  have hstay : ∀ {r : Int} {e : Ending} {w' : World}, IT.isEnter okN T d.toNat (bs s) x.toNat r T → e = .returned (.int .i64 r) ∧ w = w' → ∃ r, e = .returned (.int .i64 r) ∧ Stf w t B (fun T' => IT.isEnter okN T d.toNat (bs s) x.toNat r T') w' := by
    rintro r e w' hr ⟨rfl, rfl⟩
    exact ⟨r, rfl, Stf.keep h (Below.refl _ _) hr⟩
  cases hd : T d.toNat with
  | none =>
    refine (rf_enter_no h d x s (.inl hd)).mono fun e w' => hstay ?_
    unfold IT.isEnter; rw [hd]; exact ⟨rfl, rfl⟩
  | some n =>
  cases hx : T x.toNat with
  | none =>
    refine (rf_enter_no h d x s (.inr hx)).mono fun e w' => hstay ?_
    unfold IT.isEnter; rw [hd, hx]; exact ⟨rfl, rfl⟩
  | some m =>
  have hE : ∀ (r : Int) (T' : IT.Tr), IT.isEnter okN T d.toNat (bs s) x.toNat r T' = (if n.kind ≠ 1 then r = 6 ∧ T' = T
    else if okN (bs s) = false then r = 1 ∧ T' = T
    else if IT.findN (bs s) n.names ≠ none then r = 5 ∧ T' = T
    else if x.toNat = 1 ∨ (m.kind = 1 ∧ IT.lnk T x.toNat > 0) ∨ IT.lnk T x.toNat ≥ 8 then r = 12 ∧ T' = T
    else if n.names.length ≥ 40 then r = 9 ∧ T' = T
    else if m.kind = 1 ∧ IT.Bel T x.toNat d.toNat then r = 8 ∧ T' = T
    else r = 0 ∧ T' = IT.entT T d.toNat x.toNat (bs s) n m) := fun r T' => by unfold IT.isEnter; rw [hd, hx]
  by_cases h1 : n.kind ≠ 1
  · refine (rf_enter_nodir h d x s hd hx h1).mono fun e w' => hstay ?_
    rw [hE, if_pos h1]; exact ⟨rfl, rfl⟩
  by_cases h2 : okN (bs s) = false
  · refine (rf_enter_name h d x s hd hx (Decidable.not_not.1 h1) h2).mono fun e w' => hstay ?_
    rw [hE, if_neg h1, if_pos h2]; exact ⟨rfl, rfl⟩
  have h2' : okN (bs s) = true := by simpa using h2
  have h1' : n.kind = 1 := Decidable.not_not.1 h1
  by_cases h3 : IT.findN (bs s) n.names ≠ none
  · refine (rf_enter_is h d x s hd hx h1' h2' h3).mono fun e w' => hstay ?_
    rw [hE, if_neg h1, if_neg h2, if_pos h3]; exact ⟨rfl, rfl⟩
  have h3' : IT.findN (bs s) n.names = none := Decidable.not_not.1 h3
  by_cases h4 : x.toNat = 1 ∨ (m.kind = 1 ∧ IT.lnk T x.toNat > 0) ∨ IT.lnk T x.toNat ≥ 8
  · refine (rf_enter_many h d x s hd hx h1' h2' h3' h4).mono fun e w' => hstay ?_
    rw [hE, if_neg h1, if_neg h2, if_neg h3, if_pos h4]; exact ⟨rfl, rfl⟩
  by_cases h5 : n.names.length ≥ 40
  · refine (rf_enter_full h d x s hd hx h1' h2' h3' h4 h5).mono fun e w' => hstay ?_
    rw [hE, if_neg h1, if_neg h2, if_neg h3, if_neg h4, if_pos h5]; exact ⟨rfl, rfl⟩
  by_cases h6 : m.kind = 1
  · by_cases h7 : IT.Bel T x.toNat d.toNat
    · refine (rf_enter_busy h d x s hd hx h1' h2' h3' h4 h5 h6 h7).mono fun e w' => hstay ?_
      rw [hE, if_neg h1, if_neg h2, if_neg h3, if_neg h4, if_neg h5, if_pos ⟨h6, h7⟩]; exact ⟨rfl, rfl⟩
    · refine (rf_enter_dir h d x s hd hx h1' h2' h3' h4 h5 h6 h7).mono ?_
      rintro e w' ⟨rfl, v, hrf, hmo⟩
      refine ⟨0, rfl, _, IT.entT T d.toNat x.toNat (bs s) n m, hmo, hrf, ?_, ?_⟩
      · have hne : d.toNat ≠ x.toNat := fun e => h7 (by rw [e]; exact .self)
        have h1t := h.ties.par hx h6 d.toNat
        have e1 : IT.under d.toNat m = { m with parent := d.toNat } := by unfold IT.under; rw [if_pos h6]
        unfold IT.entT
        rw [e1]
        exact h1t.more (by rw [IT.upd_other _ _ hne]; exact hd) s v
      · dsimp only; rw [hE, if_neg h1, if_neg h2, if_neg h3, if_neg h4, if_neg h5, if_neg (fun e => h7 e.2)]; exact ⟨rfl, rfl⟩
  · refine (rf_enter_file h d x s hd hx h1' h2' h3' h4 h5 h6).mono ?_
    rintro e w' ⟨rfl, v, hrf, hmo⟩
    refine ⟨0, rfl, _, IT.entT T d.toNat x.toNat (bs s) n m, hmo, hrf, ?_, ?_⟩
    · have e1 : IT.under d.toNat m = m := by unfold IT.under; rw [if_neg h6]
      unfold IT.entT
      rw [e1, upd_self hx]
      exact h.ties.more hd s v
    · dsimp only; rw [hE, if_neg h1, if_neg h2, if_neg h3, if_neg h4, if_neg h5, if_neg (fun e => h6 e.1)]; exact ⟨rfl, rfl⟩
end Go.Proofs.Ytafonmnfeibaiaa.RF
namespace Go.Proofs.Ytafonmnfeibaiaa.RF
open Go.RowKit

/-! ### the document's tree: Remove -/
/-- An entry less. -/
theorem less_perm {E : List (ByteArray × Nat)} {l : List (IT.Bytes × Nat)} (ho : IT.Ord l) (hp : (ents E).Perm l) {i x : Nat} {s : ByteArray} (hi : E[i]? = some (s, x)) (hf : IT.findN (bs s) l = some x) : (ents (E.take i ++ E.drop (i + 1))).Perm (IT.delN (bs s) l) := by
  have h1 : (ents E).Perm ((bs s, x) :: ents (E.take i ++ E.drop (i + 1))) := by
    have e : E = E.take i ++ (s, x) :: E.drop (i + 1) := by
      obtain ⟨hl, hg⟩ := List.getElem?_eq_some_iff.1 hi
      rw [← hg, ← List.drop_eq_getElem_cons hl, List.take_append_drop]
    have e2 : ents E = ents (E.take i) ++ (bs s, x) :: ents (E.drop (i + 1)) := by
      conv => lhs; rw [e]
      unfold ents; rw [List.map_append]; rfl
    have e3 : ents (E.take i ++ E.drop (i + 1)) = ents (E.take i) ++ ents (E.drop (i + 1)) := by unfold ents; rw [List.map_append]
    rw [e2, e3]
    exact List.perm_middle
  exact List.Perm.cons_inv ((h1.symm.trans hp).trans (IT.del_perm ho hf))
theorem Tie.less {G : Gt} {T : IT.Tr} (h : Tie G T) (hs : IT.Sound0 okN T) {d i x : Nat} {n : IT.Nd} (hd : T d = some n) (s : ByteArray) (v : Value) (hi : (G d).ents[i]? = some (s, x)) (hf : IT.findN (bs s) n.names = some x) : Tie (updG G d { G d with sl := v, ents := (G d).ents.take i ++ (G d).ents.drop (i + 1) }) (IT.upd T d (some { n with names := IT.delN (bs s) n.names })) := by
  have hk := h.sok d n hd
  exact h.set d ⟨hk.is, hk.kind, hk.mode, hk.owner, hk.group, hk.tty, hk.holds, hk.parent, hk.data, less_perm (hs.ord d n hd) hk.names hi hf⟩
theorem upd_comm (T : IT.Tr) {a b : Nat} (h : a ≠ b) (x y : Option IT.Nd) : IT.upd (IT.upd T a x) b y = IT.upd (IT.upd T b y) a x := by
  funext j
  unfold IT.upd
  by_cases e1 : j = a
  · subst e1; rw [if_neg h, if_pos rfl, if_pos rfl]
  · by_cases e2 : j = b
    · rw [if_pos e2, if_neg e1, if_pos e2]
    · rw [if_neg e2, if_neg e1, if_neg e1, if_neg e2]
set_option maxRecDepth 100000 in
set_option maxHeartbeats 4000000 in
theorem rf_remove_no {w : World} {t B : Nat} {G : Gt} {T : IT.Tr} (h : Trf w t B G T) (d : Int) (s : ByteArray) (hn : T d.toNat = none) :
    Calls Try.prog 66 #[.pointer (some ⟨t, 0, none⟩), .int .i64 d, .string s] w fun e w' => e = .returned (.int .i64 3) ∧ w = w' := by
  have HI1 := Lib.hid (rf_is_no h d hn)
  clear h hn
  go_enter Try.func66, Try.ntmps66
  go_wp2_with fail
  refine HI1.out.mono ?_
  rintro e wz ⟨rfl, rfl⟩
  go_wp2
  all_goals go_ret
  all_goals exact ⟨rfl, rfl⟩
set_option maxRecDepth 100000 in
set_option maxHeartbeats 4000000 in
theorem rf_remove_nodir {w : World} {t B : Nat} {G : Gt} {T : IT.Tr} (h : Trf w t B G T) (d : Int) (s : ByteArray) {n : IT.Nd} (hd : T d.toNat = some n) (hk : n.kind ≠ 1) :
    Calls Try.prog 66 #[.pointer (some ⟨t, 0, none⟩), .int .i64 d, .string s] w fun e w' => e = .returned (.int .i64 6) ∧ w = w' := by
  have HI1 := Lib.hid (rf_is_yes h d hd)
  obtain ⟨kd, rfl, hd1, hd2, hdk⟩ := h.nat hd
  have c0 := h.rep.cellT
  have b1 := h.rep.c1 kd hd2
  rw [(h.ties.sok kd n hdk).kind] at b1
  have z1 : (n.kind == 1) = false := by simpa using hk
  clear h hd hdk hk
  go_enter Try.func66, Try.ntmps66
  go_wp2_with fail
  refine HI1.out.mono ?_
  rintro e wz ⟨rfl, rfl⟩
  go_wp2
  all_goals go_ret
  all_goals exact ⟨rfl, rfl⟩
set_option maxRecDepth 100000 in
set_option maxHeartbeats 4000000 in
theorem rf_remove_none {w : World} {t B : Nat} {G : Gt} {T : IT.Tr} (h : Trf w t B G T) (d : Int) (s : ByteArray) {n : IT.Nd} (hd : T d.toNat = some n) (hk : n.kind = 1) (hf : IT.findN (bs s) n.names = none) :
    Calls Try.prog 66 #[.pointer (some ⟨t, 0, none⟩), .int .i64 d, .string s] w fun e w' => e = .returned (.int .i64 3) ∧ w = w' := by
  have HI1 := Lib.hid (rf_is_yes h d hd)
  obtain ⟨kd, rfl, hd1, hd2, hdk⟩ := h.nat hd
  have c0 := h.rep.cellT
  have b1 := h.rep.c1 kd hd2
  rw [(h.ties.sok kd n hdk).kind] at b1
  rw [hk] at b1
  have hfn := ((h.ties.find h.snd.1 hdk s).resolve_right (fun ⟨i, y, e, _⟩ => by rw [hf] at e; cases e)).2
  have HA := Lib.hid (rf_at_none h.rep kd hd2 s hfn)
  clear h hd hdk hk hf hfn
  go_enter Try.func66, Try.ntmps66
  go_wp2_with fail
  refine HI1.out.mono ?_
  rintro e wz ⟨rfl, rfl⟩
  go_wp2_with fail
  refine HA.out.mono ?_
  rintro e wz ⟨rfl, rfl⟩
  go_wp2
  all_goals go_ret
  all_goals exact ⟨rfl, rfl⟩
set_option maxRecDepth 100000 in
set_option maxHeartbeats 4000000 in
theorem rf_remove_busy {w : World} {t B : Nat} {G : Gt} {T : IT.Tr} (h : Trf w t B G T) (d : Int) (s : ByteArray) {n : IT.Nd} (hd : T d.toNat = some n) {kx i : Nat} {m : IT.Nd} (hk : n.kind = 1) (hf : IT.findN (bs s) n.names = some kx) (hx : T kx = some m) (hi : (G d.toNat).ents[i]? = some (s, kx)) (hi2 : ∀ (j : Nat) (p : ByteArray × Nat), j < i → (G d.toNat).ents[j]? = some p → p.1 ≠ s) (hm : m.names ≠ []) :
    Calls Try.prog 66 #[.pointer (some ⟨t, 0, none⟩), .int .i64 d, .string s] w fun e w' => e = .returned (.int .i64 8) ∧ w = w' := by
  have HI1 := Lib.hid (rf_is_yes h d hd)
  obtain ⟨kd, rfl, hd1, hd2, hdk⟩ := h.nat hd
  rw [Int.toNat_natCast] at hi hi2
  have c0 := h.rep.cellT
  have b1 := h.rep.c1 kd hd2
  rw [(h.ties.sok kd n hdk).kind] at b1
  rw [hk] at b1
  have HA := Lib.hid (rf_at_some h.rep kd hd2 s hi hi2)
  have b9 := h.rep.c9 kd hd2
  obtain ⟨a, cap, hs, hl1, hl2, hl3⟩ := (h.rep.ents kd hd2).lit
  rw [hs] at b9
  obtain ⟨g, rfl, f1, f2⟩ := hl3 i _ hi
  have hil : i < (G kd).ents.length := (List.getElem?_eq_some_iff.1 hi).1
  have hl40 : (G kd).ents.length ≤ 40 := h.ties.few h.snd.1 kd hd2
  have hx1 := (h.snd.1.rng kx m hx).1
  have hx2 := (h.snd.1.rng kx m hx).2
  have x9 := h.rep.c9 kx hx2
  obtain ⟨ax, capx, hsx, _, _, _⟩ := (h.rep.ents kx hx2).lit
  rw [hsx] at x9
  have hlx : (G kx).ents.length = m.names.length := by have := (h.ties.sok kx m hx).names.length_eq; unfold ents at this; rw [List.length_map] at this; exact this
  have hlx40 : (G kx).ents.length ≤ 40 := h.ties.few h.snd.1 kx hx2
  have hlx0 : (0 : Int) < (G kx).ents.length := by
    have : 0 < m.names.length := List.length_pos_iff.2 hm
    omega
  generalize (G kd).ents.length = L at *
  generalize (G kx).ents.length = Lx at *
  clear h hd hdk hk hf hx hi hi2 hl1 hl2 hl3 hs f1 hsx hlx hm
  go_enter Try.func66, Try.ntmps66
  go_wp2_with fail
  refine HI1.out.mono ?_
  rintro e wz ⟨rfl, rfl⟩
  go_wp2_with fail
  refine HA.out.mono ?_
  rintro e wz ⟨rfl, rfl⟩
  go_wp2
  all_goals go_ret
  all_goals exact ⟨rfl, rfl⟩
set_option maxRecDepth 100000 in
set_option maxHeartbeats 4000000 in
theorem rf_remove_file {w : World} {t B : Nat} {G : Gt} {T : IT.Tr} (h : Trf w t B G T) (d : Int) (s : ByteArray) {n : IT.Nd} (hd : T d.toNat = some n) {kx i : Nat} {m : IT.Nd} (hk : n.kind = 1) (hf : IT.findN (bs s) n.names = some kx) (hx : T kx = some m) (hi : (G d.toNat).ents[i]? = some (s, kx)) (hi2 : ∀ (j : Nat) (p : ByteArray × Nat), j < i → (G d.toNat).ents[j]? = some p → p.1 ≠ s) (hm : m.names = []) (hmk : m.kind ≠ 1) :
    Calls Try.prog 66 #[.pointer (some ⟨t, 0, none⟩), .int .i64 d, .string s] w fun e w' => e = .returned (.int .i64 0) ∧ Stf w t B (fun T' => IT.isRemove T d.toNat (bs s) 0 T') w' := by
  have HM := Lib.hid hm
  have HI1 := Lib.hid (rf_is_yes h d hd)
  obtain ⟨kd, rfl, hd1, hd2, hdk⟩ := h.nat hd
  rw [Int.toNat_natCast] at hi hi2
  have c0 := h.rep.cellT
  have b1 := h.rep.c1 kd hd2
  rw [(h.ties.sok kd n hdk).kind] at b1
  rw [hk] at b1
  have HA := Lib.hid (rf_at_some h.rep kd hd2 s hi hi2)
  have b9 := h.rep.c9 kd hd2
  obtain ⟨a, cap, hs, hl1, hl2, hl3⟩ := (h.rep.ents kd hd2).lit
  rw [hs] at b9
  obtain ⟨g, rfl, f1, f2⟩ := hl3 i _ hi
  have hil : i < (G kd).ents.length := (List.getElem?_eq_some_iff.1 hi).1
  have hl40 : (G kd).ents.length ≤ 40 := h.ties.few h.snd.1 kd hd2
  have hx1 := (h.snd.1.rng kx m hx).1
  have hx2 := (h.snd.1.rng kx m hx).2
  have x9 := h.rep.c9 kx hx2
  obtain ⟨ax, capx, hsx, _, _, _⟩ := (h.rep.ents kx hx2).lit
  rw [hsx] at x9
  have hlx : (G kx).ents.length = m.names.length := by have := (h.ties.sok kx m hx).names.length_eq; unfold ents at this; rw [List.length_map] at this; exact this
  have hlx40 : (G kx).ents.length ≤ 40 := h.ties.few h.snd.1 kx hx2
  have hne : kx ≠ kd := h.snd.1.apart hdk hx hf
  have hw := rf_without h.rep kd i hd2 hil hl40
  have x1 := h.rep.c1 kx hx2
  rw [(h.ties.sok kx m hx).kind] at x1
  have hlx0 : (G kx).ents.length = 0 := by rw [hlx, hm]; rfl
  rw [hlx0] at x9
  have HW := Lib.hid hw
  have HD := Lib.hid hdk
  have HX := Lib.hid hx
  have HF := Lib.hid hf
  have HT := Lib.hid h
  have HII := Lib.hid hi
  have HNE := Lib.hid hne
  have HK := Lib.hid hk
  generalize (G kd).ents.length = L at *
  clear hw hlx hlx0 hlx40 hm hsx
  have z2 : (m.kind == 1) = false := by simpa using hmk
  have HMK := Lib.hid hmk
  clear h hd hdk hk hf hx hi hi2 hl1 hl2 hl3 hs f1 hmk hne
  go_enter Try.func66, Try.ntmps66
  go_wp2_with fail
  refine HI1.out.mono ?_
  rintro e wz ⟨rfl, rfl⟩
  go_wp2_with fail
  refine HA.out.mono ?_
  rintro e wz ⟨rfl, rfl⟩
  go_wp2_with fail
  refine HW.out.mono ?_
  rintro e w1 ⟨rfl, v, hrf, hmo⟩
  clear c0 b1 b9 x9 x1 f2
  have x1 := hrf.c1 kx hx2
  rw [updG_other _ _ HNE.out, (HT.out.ties.sok kx m HX.out).kind] at x1
  have c0 := hrf.cellT
  have HRF := Lib.hid hrf
  have HMO := Lib.hid hmo
  have HTI : Hid (Tie (updG G kd { G kd with sl := v, ents := (G kd).ents.take i ++ (G kd).ents.drop (i + 1) }) (IT.delT T kd kx (bs s) n m)) := Lib.hid (by
    have := HT.out.ties.less HT.out.snd.1 HD.out s v HII.out HF.out
    unfold IT.delT
    rw [show IT.alone kx m = m from by unfold IT.alone; rw [if_neg HMK.out], upd_self HX.out]
    exact this)
  clear hrf hmo
  go_wp2_with fail
  refine (rf_gone HRF.out HTI.out (HT.out.snd.1.del HD.out HX.out HF.out)).mono ?_
  rintro e w2 ⟨rfl, hs⟩
  have HS := Lib.hid (Stf.pre HMO.out hs)
  clear hs
  go_wp2
  go_ret
  refine ⟨rfl, HS.out.imp fun T' hT' => ?_⟩
  unfold IT.isRemove
  rw [Int.toNat_natCast, HD.out]
  dsimp only
  rw [if_neg (fun hh => hh HK.out), HF.out]
  dsimp only
  refine ⟨m, HX.out, ?_⟩
  rw [if_neg (fun hh => hh HM.out)]
  exact ⟨rfl, hT'⟩
set_option maxRecDepth 100000 in
set_option maxHeartbeats 4000000 in
theorem rf_remove_dir {w : World} {t B : Nat} {G : Gt} {T : IT.Tr} (h : Trf w t B G T) (d : Int) (s : ByteArray) {n : IT.Nd} (hd : T d.toNat = some n) {kx i : Nat} {m : IT.Nd} (hk : n.kind = 1) (hf : IT.findN (bs s) n.names = some kx) (hx : T kx = some m) (hi : (G d.toNat).ents[i]? = some (s, kx)) (hi2 : ∀ (j : Nat) (p : ByteArray × Nat), j < i → (G d.toNat).ents[j]? = some p → p.1 ≠ s) (hm : m.names = []) (hmk : m.kind = 1) :
    Calls Try.prog 66 #[.pointer (some ⟨t, 0, none⟩), .int .i64 d, .string s] w fun e w' => e = .returned (.int .i64 0) ∧ Stf w t B (fun T' => IT.isRemove T d.toNat (bs s) 0 T') w' := by
  have HM := Lib.hid hm
  have HI1 := Lib.hid (rf_is_yes h d hd)
  obtain ⟨kd, rfl, hd1, hd2, hdk⟩ := h.nat hd
  rw [Int.toNat_natCast] at hi hi2
  have c0 := h.rep.cellT
  have b1 := h.rep.c1 kd hd2
  rw [(h.ties.sok kd n hdk).kind] at b1
  rw [hk] at b1
  have HA := Lib.hid (rf_at_some h.rep kd hd2 s hi hi2)
  have b9 := h.rep.c9 kd hd2
  obtain ⟨a, cap, hs, hl1, hl2, hl3⟩ := (h.rep.ents kd hd2).lit
  rw [hs] at b9
  obtain ⟨g, rfl, f1, f2⟩ := hl3 i _ hi
  have hil : i < (G kd).ents.length := (List.getElem?_eq_some_iff.1 hi).1
  have hl40 : (G kd).ents.length ≤ 40 := h.ties.few h.snd.1 kd hd2
  have hx1 := (h.snd.1.rng kx m hx).1
  have hx2 := (h.snd.1.rng kx m hx).2
  have x9 := h.rep.c9 kx hx2
  obtain ⟨ax, capx, hsx, _, _, _⟩ := (h.rep.ents kx hx2).lit
  rw [hsx] at x9
  have hlx : (G kx).ents.length = m.names.length := by have := (h.ties.sok kx m hx).names.length_eq; unfold ents at this; rw [List.length_map] at this; exact this
  have hlx40 : (G kx).ents.length ≤ 40 := h.ties.few h.snd.1 kx hx2
  have hne : kx ≠ kd := h.snd.1.apart hdk hx hf
  have hw := rf_without h.rep kd i hd2 hil hl40
  have x1 := h.rep.c1 kx hx2
  rw [(h.ties.sok kx m hx).kind] at x1
  have hlx0 : (G kx).ents.length = 0 := by rw [hlx, hm]; rfl
  rw [hlx0] at x9
  have HW := Lib.hid hw
  have HD := Lib.hid hdk
  have HX := Lib.hid hx
  have HF := Lib.hid hf
  have HT := Lib.hid h
  have HII := Lib.hid hi
  have HNE := Lib.hid hne
  have HK := Lib.hid hk
  generalize (G kd).ents.length = L at *
  clear hw hlx hlx0 hlx40 hm hsx
  rw [hmk] at x1
  have HMK := Lib.hid hmk
  clear h hd hdk hk hf hx hi hi2 hl1 hl2 hl3 hs f1 hmk hne
  go_enter Try.func66, Try.ntmps66
  go_wp2_with fail
  refine HI1.out.mono ?_
  rintro e wz ⟨rfl, rfl⟩
  go_wp2_with fail
  refine HA.out.mono ?_
  rintro e wz ⟨rfl, rfl⟩
  go_wp2_with fail
  refine HW.out.mono ?_
  rintro e w1 ⟨rfl, v, hrf, hmo⟩
  clear c0 b1 b9 x9 x1 f2
  have x1 := hrf.c1 kx hx2
  rw [updG_other _ _ HNE.out, (HT.out.ties.sok kx m HX.out).kind, HMK.out] at x1
  have c0 := hrf.cellT
  have s7 := hrf.frozen (kx * 10 + 7)
  have x7 := hrf.c7 kx hx2
  obtain ⟨G1, hG1⟩ : ∃ G1, updG G kd { G kd with sl := v, ents := (G kd).ents.take i ++ (G kd).ents.drop (i + 1) } = G1 := ⟨_, rfl⟩
  have ht1 := HT.out.ties.less HT.out.snd.1 HD.out s v HII.out HF.out
  rw [hG1] at hrf ht1
  have hx3 : (IT.upd T kd (some { n with names := IT.delN (bs s) n.names })) kx = some m := by rw [IT.upd_other _ _ HNE.out]; exact HX.out
  have HRF := Lib.hid (hrf.set hx2 (show 7 < 10 by omega) (.int .i64 (kx : Int)) { G1 kx with parent := (kx : Int) } rfl (hrf.ents kx hx2))
  have HMO := Lib.hid (hmo.set (i := kx * 10 + 7) (.int .i64 (kx : Int)))
  have HTI : Hid (Tie (updG G1 kx { G1 kx with parent := (kx : Int) }) (IT.delT T kd kx (bs s) n m)) := Lib.hid (by
    have := ht1.par hx3 HMK.out kx
    unfold IT.delT
    rw [show IT.alone kx m = { m with parent := kx } from by unfold IT.alone; rw [if_pos HMK.out], upd_comm T HNE.out]
    exact this)
  clear hrf hmo ht1 hG1 hx3
  go_wp2_with fail
  refine (rf_gone HRF.out HTI.out (HT.out.snd.1.del HD.out HX.out HF.out)).mono ?_
  rintro e w2 ⟨rfl, hs⟩
  have HS := Lib.hid (Stf.pre HMO.out hs)
  clear hs
  go_wp2
  go_ret
  refine ⟨rfl, HS.out.imp fun T' hT' => ?_⟩
  unfold IT.isRemove
  rw [Int.toNat_natCast, HD.out]
  dsimp only
  rw [if_neg (fun hh => hh HK.out), HF.out]
  dsimp only
  refine ⟨m, HX.out, ?_⟩
  rw [if_neg (fun hh => hh HM.out)]
  exact ⟨rfl, hT'⟩
theorem rf_remove {w : World} {t B : Nat} {G : Gt} {T : IT.Tr} (h : Trf w t B G T) (d : Int) (s : ByteArray) :
    Calls Try.prog 66 #[.pointer (some ⟨t, 0, none⟩), .int .i64 d, .string s] w fun e w' => ∃ r, e = .returned (.int .i64 r) ∧ Stf w t B (fun T' => IT.isRemove T d.toNat (bs s) r T') w' := by
  have hstay : ∀ {r : Int} {e : Ending} {w' : World}, IT.isRemove T d.toNat (bs s) r T → e = .returned (.int .i64 r) ∧ w = w' → ∃ r, e = .returned (.int .i64 r) ∧ Stf w t B (fun T' => IT.isRemove T d.toNat (bs s) r T') w' := by
    rintro r e w' hr ⟨rfl, rfl⟩
    exact ⟨r, rfl, Stf.keep h (Below.refl _ _) hr⟩
  cases hd : T d.toNat with
  | none =>
    refine (rf_remove_no h d s hd).mono fun e w' => hstay ?_
    unfold IT.isRemove; rw [hd]; exact ⟨rfl, rfl⟩
  | some n =>
  by_cases h1 : n.kind = 1
  · rcases h.ties.find h.snd.1 hd s with ⟨g1, g2⟩ | ⟨i, x, g1, g2, g3⟩
    · refine (rf_remove_none h d s hd h1 g1).mono fun e w' => hstay ?_
      unfold IT.isRemove; rw [hd]; dsimp only; rw [if_neg (fun hh => hh h1), g1]; exact ⟨rfl, rfl⟩
    · obtain ⟨m, hm⟩ := (h.ties.lead h.snd.1 hd (List.mem_of_getElem? g2)).2
      by_cases h2 : m.names = []
      · by_cases h3 : m.kind = 1
        · exact (rf_remove_dir h d s hd h1 g1 hm g2 g3 h2 h3).mono fun e w' hh => ⟨0, hh⟩
        · exact (rf_remove_file h d s hd h1 g1 hm g2 g3 h2 h3).mono fun e w' hh => ⟨0, hh⟩
      · refine (rf_remove_busy h d s hd h1 g1 hm g2 g3 h2).mono fun e w' => hstay ?_
        unfold IT.isRemove; rw [hd]; dsimp only; rw [if_neg (fun hh => hh h1), g1]; dsimp only
        refine ⟨m, hm, ?_⟩
        rw [if_pos h2]; exact ⟨rfl, rfl⟩
  · refine (rf_remove_nodir h d s hd h1).mono fun e w' => hstay ?_
    unfold IT.isRemove; rw [hd]; dsimp only; rw [if_pos h1]; exact ⟨rfl, rfl⟩
end Go.Proofs.Ytafonmnfeibaiaa.RF
namespace Go.Proofs.Ytafonmnfeibaiaa.RF
open Go.RowKit

/-! ### the document's tree: Move, what it refuses -/
set_option maxRecDepth 100000 in
set_option maxHeartbeats 4000000 in
theorem rf_move_no {w : World} {t B : Nat} {G : Gt} {T : IT.Tr} (h : Trf w t B G T) (d b : Int) (s sa : ByteArray) (hn : T d.toNat = none ∨ T b.toNat = none) :
    Calls Try.prog 67 #[.pointer (some ⟨t, 0, none⟩), .int .i64 d, .string s, .int .i64 b, .string sa] w fun e w' => e = .returned (.int .i64 3) ∧ w = w' := by
  cases hd : T d.toNat with
  | none =>
    have HI1 := Lib.hid (rf_is_no h d hd)
    have HI2 := Lib.hid (rf_is h.rep b)
    generalize isB G b = q at *
    clear h hd hn
    go_enter Try.func67, Try.ntmps67
    go_wp2_with fail
    refine HI1.out.mono ?_
    rintro e wz ⟨rfl, rfl⟩
    go_wp2_with fail
    refine HI2.out.mono ?_
    rintro e wz ⟨rfl, rfl⟩
    go_wp2
    all_goals go_ret
    all_goals exact ⟨rfl, rfl⟩
  | some n =>
    have hx : T b.toNat = none := hn.resolve_left (fun e => by rw [hd] at e; cases e)
    have HI1 := Lib.hid (rf_is_yes h d hd)
    have HI2 := Lib.hid (rf_is_no h b hx)
    clear h hd hn hx
    go_enter Try.func67, Try.ntmps67
    go_wp2_with fail
    refine HI1.out.mono ?_
    rintro e wz ⟨rfl, rfl⟩
    go_wp2_with fail
    refine HI2.out.mono ?_
    rintro e wz ⟨rfl, rfl⟩
    go_wp2
    all_goals go_ret
    all_goals exact ⟨rfl, rfl⟩
set_option maxRecDepth 100000 in
set_option maxHeartbeats 4000000 in
theorem rf_move_nodir {w : World} {t B : Nat} {G : Gt} {T : IT.Tr} (h : Trf w t B G T) {kd kb : Nat} (s sa : ByteArray) {n q : IT.Nd} (hd : T kd = some n) (hq : T kb = some q) (hk : n.kind ≠ 1 ∨ q.kind ≠ 1) :
    Calls Try.prog 67 #[.pointer (some ⟨t, 0, none⟩), .int .i64 (kd : Int), .string s, .int .i64 (kb : Int), .string sa] w fun e w' => e = .returned (.int .i64 6) ∧ w = w' := by
  have HI1 := Lib.hid (rf_is_yes h (kd : Int) hd)
  have HI2 := Lib.hid (rf_is_yes h (kb : Int) hq)
  obtain ⟨hd1, hd2⟩ := h.snd.1.rng kd n hd
  obtain ⟨hb1, hb2⟩ := h.snd.1.rng kb q hq
  have c0 := h.rep.cellT
  have b1 := h.rep.c1 kd hd2
  rw [(h.ties.sok kd n hd).kind] at b1
  have y1 := h.rep.c1 kb hb2
  rw [(h.ties.sok kb q hq).kind] at y1
  by_cases hk1 : n.kind = 1
  · rw [hk1] at b1
    have z1 : (q.kind == 1) = false := by simpa using hk.resolve_left (fun e => e hk1)
    clear h hd hq hk hk1
    go_enter Try.func67, Try.ntmps67
    go_wp2_with fail
    refine HI1.out.mono ?_
    rintro e wz ⟨rfl, rfl⟩
    go_wp2_with fail
    refine HI2.out.mono ?_
    rintro e wz ⟨rfl, rfl⟩
    go_wp2
    all_goals go_ret
    all_goals exact ⟨rfl, rfl⟩
  · have z1 : (n.kind == 1) = false := by simpa using hk1
    clear h hd hq hk hk1
    go_enter Try.func67, Try.ntmps67
    go_wp2_with fail
    refine HI1.out.mono ?_
    rintro e wz ⟨rfl, rfl⟩
    go_wp2_with fail
    refine HI2.out.mono ?_
    rintro e wz ⟨rfl, rfl⟩
    go_wp2
    all_goals go_ret
    all_goals exact ⟨rfl, rfl⟩
set_option maxRecDepth 100000 in
set_option maxHeartbeats 4000000 in
theorem rf_move_none {w : World} {t B : Nat} {G : Gt} {T : IT.Tr} (h : Trf w t B G T) {kd kb : Nat} (s sa : ByteArray) {n q : IT.Nd} (hd : T kd = some n) (hq : T kb = some q) (hk : n.kind = 1) (hkb : q.kind = 1) (hf : IT.findN (bs s) n.names = none) :
    Calls Try.prog 67 #[.pointer (some ⟨t, 0, none⟩), .int .i64 (kd : Int), .string s, .int .i64 (kb : Int), .string sa] w fun e w' => e = .returned (.int .i64 3) ∧ w = w' := by
  have HI1 := Lib.hid (rf_is_yes h (kd : Int) hd)
  have HI2 := Lib.hid (rf_is_yes h (kb : Int) hq)
  obtain ⟨hd1, hd2⟩ := h.snd.1.rng kd n hd
  obtain ⟨hb1, hb2⟩ := h.snd.1.rng kb q hq
  have c0 := h.rep.cellT
  have b1 := h.rep.c1 kd hd2
  rw [(h.ties.sok kd n hd).kind] at b1
  have y1 := h.rep.c1 kb hb2
  rw [(h.ties.sok kb q hq).kind] at y1
  rw [hk] at b1
  rw [hkb] at y1
  have HA := Lib.hid (rf_at_none h.rep kd hd2 s ((h.ties.find h.snd.1 hd s).resolve_right (fun ⟨i, y, e, _⟩ => by rw [hf] at e; cases e)).2)
  clear h hd hq hk hkb hf
  go_enter Try.func67, Try.ntmps67
  go_wp2_with fail
  refine HI1.out.mono ?_
  rintro e wz ⟨rfl, rfl⟩
  go_wp2_with fail
  refine HI2.out.mono ?_
  rintro e wz ⟨rfl, rfl⟩
  go_wp2_with fail
  refine HA.out.mono ?_
  rintro e wz ⟨rfl, rfl⟩
  go_wp2
  all_goals go_ret
  all_goals exact ⟨rfl, rfl⟩
set_option maxRecDepth 100000 in
set_option maxHeartbeats 4000000 in
theorem rf_move_name {w : World} {t B : Nat} {G : Gt} {T : IT.Tr} (h : Trf w t B G T) {kd kb : Nat} (s sa : ByteArray) {n q : IT.Nd} (hd : T kd = some n) (hq : T kb = some q) (hk : n.kind = 1) (hkb : q.kind = 1) {kx i : Nat} {m : IT.Nd} (hf : IT.findN (bs s) n.names = some kx) (hx : T kx = some m) (hi : (G kd).ents[i]? = some (s, kx)) (hi2 : ∀ (j : Nat) (p : ByteArray × Nat), j < i → (G kd).ents[j]? = some p → p.1 ≠ s) (hok : okN (bs sa) = false) :
    Calls Try.prog 67 #[.pointer (some ⟨t, 0, none⟩), .int .i64 (kd : Int), .string s, .int .i64 (kb : Int), .string sa] w fun e w' => e = .returned (.int .i64 1) ∧ w = w' := by
  have HI1 := Lib.hid (rf_is_yes h (kd : Int) hd)
  have HI2 := Lib.hid (rf_is_yes h (kb : Int) hq)
  obtain ⟨hd1, hd2⟩ := h.snd.1.rng kd n hd
  obtain ⟨hb1, hb2⟩ := h.snd.1.rng kb q hq
  have c0 := h.rep.cellT
  have b1 := h.rep.c1 kd hd2
  rw [(h.ties.sok kd n hd).kind] at b1
  have y1 := h.rep.c1 kb hb2
  rw [(h.ties.sok kb q hq).kind] at y1
  rw [hk] at b1
  rw [hkb] at y1
  obtain ⟨hx1, hx2⟩ := h.snd.1.rng kx m hx
  have HA := Lib.hid (rf_at_some h.rep kd hd2 s hi hi2)
  have HN := Lib.hid (rname_ok sa w)
  rw [hok] at HN
  have HF := Lib.hid hf
  clear h hd hq hk hkb hf hx hi hi2 hok HF
  go_enter Try.func67, Try.ntmps67
  go_wp2_with fail
  refine HI1.out.mono ?_
  rintro e wz ⟨rfl, rfl⟩
  go_wp2_with fail
  refine HI2.out.mono ?_
  rintro e wz ⟨rfl, rfl⟩
  go_wp2_with fail
  refine HA.out.mono ?_
  rintro e wz ⟨rfl, rfl⟩
  go_wp2_with fail
  refine HN.out.mono ?_
  rintro e wz ⟨rfl, rfl⟩
  go_wp2
  all_goals go_ret
  all_goals exact ⟨rfl, rfl⟩
set_option maxRecDepth 100000 in
set_option maxHeartbeats 4000000 in
theorem rf_move_busy {w : World} {t B : Nat} {G : Gt} {T : IT.Tr} (h : Trf w t B G T) {kd kb : Nat} (s sa : ByteArray) {n q : IT.Nd} (hd : T kd = some n) (hq : T kb = some q) (hk : n.kind = 1) (hkb : q.kind = 1) {kx i : Nat} {m : IT.Nd} (hf : IT.findN (bs s) n.names = some kx) (hx : T kx = some m) (hi : (G kd).ents[i]? = some (s, kx)) (hi2 : ∀ (j : Nat) (p : ByteArray × Nat), j < i → (G kd).ents[j]? = some p → p.1 ≠ s) (hok : okN (bs sa) = true) (hmk : m.kind = 1) (hbe : IT.Bel T kx kb) :
    Calls Try.prog 67 #[.pointer (some ⟨t, 0, none⟩), .int .i64 (kd : Int), .string s, .int .i64 (kb : Int), .string sa] w fun e w' => e = .returned (.int .i64 8) ∧ w = w' := by
  have HI1 := Lib.hid (rf_is_yes h (kd : Int) hd)
  have HI2 := Lib.hid (rf_is_yes h (kb : Int) hq)
  obtain ⟨hd1, hd2⟩ := h.snd.1.rng kd n hd
  obtain ⟨hb1, hb2⟩ := h.snd.1.rng kb q hq
  have c0 := h.rep.cellT
  have b1 := h.rep.c1 kd hd2
  rw [(h.ties.sok kd n hd).kind] at b1
  have y1 := h.rep.c1 kb hb2
  rw [(h.ties.sok kb q hq).kind] at y1
  rw [hk] at b1
  rw [hkb] at y1
  obtain ⟨hx1, hx2⟩ := h.snd.1.rng kx m hx
  have HA := Lib.hid (rf_at_some h.rep kd hd2 s hi hi2)
  have HN := Lib.hid (rname_ok sa w)
  rw [hok] at HN
  have b9 := h.rep.c9 kd hd2
  obtain ⟨a, cap, hs, hl1, hl2, hl3⟩ := (h.rep.ents kd hd2).lit
  rw [hs] at b9
  obtain ⟨g, rfl, f1, f2⟩ := hl3 i _ hi
  have hil : i < (G kd).ents.length := (List.getElem?_eq_some_iff.1 hi).1
  have hl40 : (G kd).ents.length ≤ 40 := h.ties.few h.snd.1 kd hd2
  have x1 := h.rep.c1 kx hx2
  rw [(h.ties.sok kx m hx).kind] at x1
  rw [hmk] at x1
  have HF := Lib.hid hf
  have HWI : Hid (Calls Try.prog 87 #[.pointer (some ⟨t, 0, none⟩), .int .i64 (kb : Int), .int .i64 (kx : Int)] w fun e w' => e = .returned (.bool true) ∧ w = w') := Lib.hid ((rf_within h kb kx hq hkb).mono (by
    rintro e w' ⟨c, rfl, hc, rfl⟩
    rw [hc.2 hbe]
    exact ⟨rfl, rfl⟩))
  generalize (G kd).ents.length = L at *
  clear h hd hq hk hkb hf hx hi hi2 hok hl1 hl2 hl3 hs f1 hmk hbe HF
  go_enter Try.func67, Try.ntmps67
  go_wp2_with fail
  refine HI1.out.mono ?_
  rintro e wz ⟨rfl, rfl⟩
  go_wp2_with fail
  refine HI2.out.mono ?_
  rintro e wz ⟨rfl, rfl⟩
  go_wp2_with fail
  refine HA.out.mono ?_
  rintro e wz ⟨rfl, rfl⟩
  go_wp2_with fail
  refine HN.out.mono ?_
  rintro e wz ⟨rfl, rfl⟩
  go_wp2_with fail
  refine HWI.out.mono ?_
  rintro e wz ⟨rfl, rfl⟩
  go_wp2
  all_goals go_ret
  all_goals exact ⟨rfl, rfl⟩
set_option maxRecDepth 100000 in
set_option maxHeartbeats 4000000 in
theorem rf_move_full {w : World} {t B : Nat} {G : Gt} {T : IT.Tr} (h : Trf w t B G T) {kd kb : Nat} (s sa : ByteArray) {n q : IT.Nd} (hd : T kd = some n) (hq : T kb = some q) (hk : n.kind = 1) (hkb : q.kind = 1) {kx i : Nat} {m : IT.Nd} (hf : IT.findN (bs s) n.names = some kx) (hx : T kx = some m) (hi : (G kd).ents[i]? = some (s, kx)) (hi2 : ∀ (j : Nat) (p : ByteArray × Nat), j < i → (G kd).ents[j]? = some p → p.1 ≠ s) (hok : okN (bs sa) = true) (hbe : ¬ (m.kind = 1 ∧ IT.Bel T kx kb)) (hfa : IT.findN (bs sa) q.names = none) (hne : kd ≠ kb) (h40 : q.names.length ≥ 40) :
    Calls Try.prog 67 #[.pointer (some ⟨t, 0, none⟩), .int .i64 (kd : Int), .string s, .int .i64 (kb : Int), .string sa] w fun e w' => e = .returned (.int .i64 9) ∧ w = w' := by
  have HI1 := Lib.hid (rf_is_yes h (kd : Int) hd)
  have HI2 := Lib.hid (rf_is_yes h (kb : Int) hq)
  obtain ⟨hd1, hd2⟩ := h.snd.1.rng kd n hd
  obtain ⟨hb1, hb2⟩ := h.snd.1.rng kb q hq
  have c0 := h.rep.cellT
  have b1 := h.rep.c1 kd hd2
  rw [(h.ties.sok kd n hd).kind] at b1
  have y1 := h.rep.c1 kb hb2
  rw [(h.ties.sok kb q hq).kind] at y1
  rw [hk] at b1
  rw [hkb] at y1
  obtain ⟨hx1, hx2⟩ := h.snd.1.rng kx m hx
  have HA := Lib.hid (rf_at_some h.rep kd hd2 s hi hi2)
  have HN := Lib.hid (rname_ok sa w)
  rw [hok] at HN
  have b9 := h.rep.c9 kd hd2
  obtain ⟨a, cap, hs, hl1, hl2, hl3⟩ := (h.rep.ents kd hd2).lit
  rw [hs] at b9
  obtain ⟨g, rfl, f1, f2⟩ := hl3 i _ hi
  have hil : i < (G kd).ents.length := (List.getElem?_eq_some_iff.1 hi).1
  have hl40 : (G kd).ents.length ≤ 40 := h.ties.few h.snd.1 kd hd2
  have x1 := h.rep.c1 kx hx2
  rw [(h.ties.sok kx m hx).kind] at x1
  have y9 := h.rep.c9 kb hb2
  obtain ⟨ay, capy, hsy, _, _, hl3y⟩ := (h.rep.ents kb hb2).lit
  rw [hsy] at y9
  have hly40 : (G kb).ents.length ≤ 40 := h.ties.few h.snd.1 kb hb2
  have hly : q.names.length = (G kb).ents.length := by have := (h.ties.sok kb q hq).names.length_eq; unfold ents at this; rw [List.length_map] at this; exact this.symm
  have HA2 := Lib.hid (rf_at_none h.rep kb hb2 sa ((h.ties.find h.snd.1 hq sa).resolve_right (fun ⟨i, y, e, _⟩ => by rw [hfa] at e; cases e)).2)
  have hL1 : (40 : Int) ≤ (G kb).ents.length := by omega
  have z3 : ((kb : Int) == (kd : Int)) = false := by simpa using (show ¬ (kb : Int) = (kd : Int) by omega)
  have HF := Lib.hid hf
  by_cases hmk : m.kind = 1
  · have hbe := fun hh => hbe ⟨hmk, hh⟩
    have HWI : Hid (Calls Try.prog 87 #[.pointer (some ⟨t, 0, none⟩), .int .i64 (kb : Int), .int .i64 (kx : Int)] w fun e w' => e = .returned (.bool false) ∧ w = w') := Lib.hid ((rf_within h kb kx hq hkb).mono (by
      rintro e w' ⟨c, rfl, hc, rfl⟩
      cases c with
      | false => exact ⟨rfl, rfl⟩
      | true => exact absurd (hc.1 rfl) hbe))
    rw [hmk] at x1
    generalize (G kd).ents.length = L at *
    generalize (G kb).ents.length = Ly at *
    clear h hd hq hk hkb hf hx hi hi2 hok hl1 hl2 hl3 hs f1 hmk hbe hfa hne h40 hsy hl3y hly HF
    go_enter Try.func67, Try.ntmps67
    go_wp2_with fail
    refine HI1.out.mono ?_
    rintro e wz ⟨rfl, rfl⟩
    go_wp2_with fail
    refine HI2.out.mono ?_
    rintro e wz ⟨rfl, rfl⟩
    go_wp2_with fail
    refine HA.out.mono ?_
    rintro e wz ⟨rfl, rfl⟩
    go_wp2_with fail
    refine HN.out.mono ?_
    rintro e wz ⟨rfl, rfl⟩
    go_wp2_with fail
    refine HWI.out.mono ?_
    rintro e wz ⟨rfl, rfl⟩
    go_wp2_with fail
    refine HA2.out.mono ?_
    rintro e wz ⟨rfl, rfl⟩
    go_wp2
    all_goals go_ret
    all_goals exact ⟨rfl, rfl⟩
  · have z2 : (m.kind == 1) = false := by simpa using hmk
    generalize (G kd).ents.length = L at *
    generalize (G kb).ents.length = Ly at *
    clear h hd hq hk hkb hf hx hi hi2 hok hl1 hl2 hl3 hs f1 hmk hbe hfa hne h40 hsy hl3y hly HF
    go_enter Try.func67, Try.ntmps67
    go_wp2_with fail
    refine HI1.out.mono ?_
    rintro e wz ⟨rfl, rfl⟩
    go_wp2_with fail
    refine HI2.out.mono ?_
    rintro e wz ⟨rfl, rfl⟩
    go_wp2_with fail
    refine HA.out.mono ?_
    rintro e wz ⟨rfl, rfl⟩
    go_wp2_with fail
    refine HN.out.mono ?_
    rintro e wz ⟨rfl, rfl⟩
    go_wp2_with fail
    refine HA2.out.mono ?_
    rintro e wz ⟨rfl, rfl⟩
    go_wp2
    all_goals go_ret
    all_goals exact ⟨rfl, rfl⟩
set_option maxRecDepth 100000 in
set_option maxHeartbeats 4000000 in
theorem rf_move_same {w : World} {t B : Nat} {G : Gt} {T : IT.Tr} (h : Trf w t B G T) {kd kb : Nat} (s sa : ByteArray) {n q : IT.Nd} (hd : T kd = some n) (hq : T kb = some q) (hk : n.kind = 1) (hkb : q.kind = 1) {kx i : Nat} {m : IT.Nd} (hf : IT.findN (bs s) n.names = some kx) (hx : T kx = some m) (hi : (G kd).ents[i]? = some (s, kx)) (hi2 : ∀ (j : Nat) (p : ByteArray × Nat), j < i → (G kd).ents[j]? = some p → p.1 ≠ s) (hok : okN (bs sa) = true) (hbe : ¬ (m.kind = 1 ∧ IT.Bel T kx kb)) {j : Nat} (hfa : IT.findN (bs sa) q.names = some kx) (hj : (G kb).ents[j]? = some (sa, kx)) (hj2 : ∀ (l : Nat) (p : ByteArray × Nat), l < j → (G kb).ents[l]? = some p → p.1 ≠ sa) :
    Calls Try.prog 67 #[.pointer (some ⟨t, 0, none⟩), .int .i64 (kd : Int), .string s, .int .i64 (kb : Int), .string sa] w fun e w' => e = .returned (.int .i64 0) ∧ w = w' := by
  have HI1 := Lib.hid (rf_is_yes h (kd : Int) hd)
  have HI2 := Lib.hid (rf_is_yes h (kb : Int) hq)
  obtain ⟨hd1, hd2⟩ := h.snd.1.rng kd n hd
  obtain ⟨hb1, hb2⟩ := h.snd.1.rng kb q hq
  have c0 := h.rep.cellT
  have b1 := h.rep.c1 kd hd2
  rw [(h.ties.sok kd n hd).kind] at b1
  have y1 := h.rep.c1 kb hb2
  rw [(h.ties.sok kb q hq).kind] at y1
  rw [hk] at b1
  rw [hkb] at y1
  obtain ⟨hx1, hx2⟩ := h.snd.1.rng kx m hx
  have HA := Lib.hid (rf_at_some h.rep kd hd2 s hi hi2)
  have HN := Lib.hid (rname_ok sa w)
  rw [hok] at HN
  have b9 := h.rep.c9 kd hd2
  obtain ⟨a, cap, hs, hl1, hl2, hl3⟩ := (h.rep.ents kd hd2).lit
  rw [hs] at b9
  obtain ⟨g, rfl, f1, f2⟩ := hl3 i _ hi
  have hil : i < (G kd).ents.length := (List.getElem?_eq_some_iff.1 hi).1
  have hl40 : (G kd).ents.length ≤ 40 := h.ties.few h.snd.1 kd hd2
  have x1 := h.rep.c1 kx hx2
  rw [(h.ties.sok kx m hx).kind] at x1
  have y9 := h.rep.c9 kb hb2
  obtain ⟨ay, capy, hsy, _, _, hl3y⟩ := (h.rep.ents kb hb2).lit
  rw [hsy] at y9
  have hly40 : (G kb).ents.length ≤ 40 := h.ties.few h.snd.1 kb hb2
  have hly : q.names.length = (G kb).ents.length := by have := (h.ties.sok kb q hq).names.length_eq; unfold ents at this; rw [List.length_map] at this; exact this.symm
  have HA2 := Lib.hid (rf_at_some h.rep kb hb2 sa hj hj2)
  obtain ⟨gy, rfl, f1y, f2y⟩ := hl3y j _ hj
  have hjl : j < (G kb).ents.length := (List.getElem?_eq_some_iff.1 hj).1
  have HF := Lib.hid hf
  by_cases hmk : m.kind = 1
  · have hbe := fun hh => hbe ⟨hmk, hh⟩
    have HWI : Hid (Calls Try.prog 87 #[.pointer (some ⟨t, 0, none⟩), .int .i64 (kb : Int), .int .i64 (kx : Int)] w fun e w' => e = .returned (.bool false) ∧ w = w') := Lib.hid ((rf_within h kb kx hq hkb).mono (by
      rintro e w' ⟨c, rfl, hc, rfl⟩
      cases c with
      | false => exact ⟨rfl, rfl⟩
      | true => exact absurd (hc.1 rfl) hbe))
    rw [hmk] at x1
    generalize (G kd).ents.length = L at *
    generalize (G kb).ents.length = Ly at *
    clear h hd hq hk hkb hf hx hi hi2 hok hl1 hl2 hl3 hs f1 hmk hbe hfa hj hj2 hsy hl3y hly f1y HF
    go_enter Try.func67, Try.ntmps67
    go_wp2_with fail
    refine HI1.out.mono ?_
    rintro e wz ⟨rfl, rfl⟩
    go_wp2_with fail
    refine HI2.out.mono ?_
    rintro e wz ⟨rfl, rfl⟩
    go_wp2_with fail
    refine HA.out.mono ?_
    rintro e wz ⟨rfl, rfl⟩
    go_wp2_with fail
    refine HN.out.mono ?_
    rintro e wz ⟨rfl, rfl⟩
    go_wp2_with fail
    refine HWI.out.mono ?_
    rintro e wz ⟨rfl, rfl⟩
    go_wp2_with fail
    refine HA2.out.mono ?_
    rintro e wz ⟨rfl, rfl⟩
    go_wp2
    all_goals go_ret
    all_goals exact ⟨rfl, rfl⟩
  · have z2 : (m.kind == 1) = false := by simpa using hmk
    generalize (G kd).ents.length = L at *
    generalize (G kb).ents.length = Ly at *
    clear h hd hq hk hkb hf hx hi hi2 hok hl1 hl2 hl3 hs f1 hmk hbe hfa hj hj2 hsy hl3y hly f1y HF
    go_enter Try.func67, Try.ntmps67
    go_wp2_with fail
    refine HI1.out.mono ?_
    rintro e wz ⟨rfl, rfl⟩
    go_wp2_with fail
    refine HI2.out.mono ?_
    rintro e wz ⟨rfl, rfl⟩
    go_wp2_with fail
    refine HA.out.mono ?_
    rintro e wz ⟨rfl, rfl⟩
    go_wp2_with fail
    refine HN.out.mono ?_
    rintro e wz ⟨rfl, rfl⟩
    go_wp2_with fail
    refine HA2.out.mono ?_
    rintro e wz ⟨rfl, rfl⟩
    go_wp2
    all_goals go_ret
    all_goals exact ⟨rfl, rfl⟩
end Go.Proofs.Ytafonmnfeibaiaa.RF
namespace Go.Proofs.Ytafonmnfeibaiaa.RF
open Go.RowKit

set_option maxRecDepth 100000 in
set_option maxHeartbeats 4000000 in
theorem rf_move_kind {w : World} {t B : Nat} {G : Gt} {T : IT.Tr} (h : Trf w t B G T) {kd kb : Nat} (s sa : ByteArray) {n q : IT.Nd} (hd : T kd = some n) (hq : T kb = some q) (hk : n.kind = 1) (hkb : q.kind = 1) {kx i : Nat} {m : IT.Nd} (hf : IT.findN (bs s) n.names = some kx) (hx : T kx = some m) (hi : (G kd).ents[i]? = some (s, kx)) (hi2 : ∀ (j : Nat) (p : ByteArray × Nat), j < i → (G kd).ents[j]? = some p → p.1 ≠ s) (hok : okN (bs sa) = true) (hbe : ¬ (m.kind = 1 ∧ IT.Bel T kx kb)) {kw j : Nat} (hfa : IT.findN (bs sa) q.names = some kw) (hj : (G kb).ents[j]? = some (sa, kw)) (hj2 : ∀ (l : Nat) (p : ByteArray × Nat), l < j → (G kb).ents[l]? = some p → p.1 ≠ sa) {mw : IT.Nd} (hwx : kw ≠ kx) (hw : T kw = some mw) (hkk : ¬ (mw.kind = 1 ↔ m.kind = 1)) :
    Calls Try.prog 67 #[.pointer (some ⟨t, 0, none⟩), .int .i64 (kd : Int), .string s, .int .i64 (kb : Int), .string sa] w fun e w' => e = .returned (.int .i64 7) ∧ Below w.heap.size w w' := by
  have HI1 := Lib.hid (rf_is_yes h (kd : Int) hd)
  have HI2 := Lib.hid (rf_is_yes h (kb : Int) hq)
  obtain ⟨hd1, hd2⟩ := h.snd.1.rng kd n hd
  obtain ⟨hb1, hb2⟩ := h.snd.1.rng kb q hq
  have c0 := h.rep.cellT
  have b1 := h.rep.c1 kd hd2
  rw [(h.ties.sok kd n hd).kind] at b1
  have y1 := h.rep.c1 kb hb2
  rw [(h.ties.sok kb q hq).kind] at y1
  rw [hk] at b1
  rw [hkb] at y1
  obtain ⟨hx1, hx2⟩ := h.snd.1.rng kx m hx
  have HA := Lib.hid (rf_at_some h.rep kd hd2 s hi hi2)
  have HN := Lib.hid (rname_ok sa w)
  rw [hok] at HN
  have b9 := h.rep.c9 kd hd2
  obtain ⟨a, cap, hs, hl1, hl2, hl3⟩ := (h.rep.ents kd hd2).lit
  rw [hs] at b9
  obtain ⟨g, rfl, f1, f2⟩ := hl3 i _ hi
  have hil : i < (G kd).ents.length := (List.getElem?_eq_some_iff.1 hi).1
  have hl40 : (G kd).ents.length ≤ 40 := h.ties.few h.snd.1 kd hd2
  have x1 := h.rep.c1 kx hx2
  rw [(h.ties.sok kx m hx).kind] at x1
  have y9 := h.rep.c9 kb hb2
  obtain ⟨ay, capy, hsy, _, _, hl3y⟩ := (h.rep.ents kb hb2).lit
  rw [hsy] at y9
  have hly40 : (G kb).ents.length ≤ 40 := h.ties.few h.snd.1 kb hb2
  have hly : q.names.length = (G kb).ents.length := by have := (h.ties.sok kb q hq).names.length_eq; unfold ents at this; rw [List.length_map] at this; exact this.symm
  have HA2 := Lib.hid (rf_at_some h.rep kb hb2 sa hj hj2)
  obtain ⟨gy, rfl, f1y, f2y⟩ := hl3y j _ hj
  have hjl : j < (G kb).ents.length := (List.getElem?_eq_some_iff.1 hj).1
  obtain ⟨hw1, hw2⟩ := h.snd.1.rng kw mw hw
  have w1 := h.rep.c1 kw hw2
  rw [(h.ties.sok kw mw hw).kind] at w1
  have z4 : ((kw : Int) == (kx : Int)) = false := by simpa using (show ¬ (kw : Int) = (kx : Int) by omega)
  have n1 : kx < 201 := by omega
  have n2 : (kx : Int) < 201 := by omega
  have n3 : kw < 201 := by omega
  have n4 : (kw : Int) < 201 := by omega
  have HF := Lib.hid hf
  by_cases hmk : m.kind = 1
  · have hbe := fun hh => hbe ⟨hmk, hh⟩
    have HWI : Hid (Calls Try.prog 87 #[.pointer (some ⟨t, 0, none⟩), .int .i64 (kb : Int), .int .i64 (kx : Int)] w fun e w' => e = .returned (.bool false) ∧ w = w') := Lib.hid ((rf_within h kb kx hq hkb).mono (by
      rintro e w' ⟨c, rfl, hc, rfl⟩
      cases c with
      | false => exact ⟨rfl, rfl⟩
      | true => exact absurd (hc.1 rfl) hbe))
    rw [hmk] at x1
    have hkw : (mw.kind == 1) = false := by
      by_cases e : mw.kind = 1
      · simp [e, hmk] at hkk ⊢
      · simp [e, hmk] at hkk ⊢
    generalize (G kd).ents.length = L at *
    generalize (G kb).ents.length = Ly at *
    clear h hd hq hk hkb hf hx hi hi2 hok hl1 hl2 hl3 hs f1 hmk hbe hfa hj hj2 hsy hl3y hly f1y HF hwx hw hkk
    go_enter Try.func67, Try.ntmps67
    go_wp2_with fail
    refine HI1.out.mono ?_
    rintro e wz ⟨rfl, rfl⟩
    go_wp2_with fail
    refine HI2.out.mono ?_
    rintro e wz ⟨rfl, rfl⟩
    go_wp2_with fail
    refine HA.out.mono ?_
    rintro e wz ⟨rfl, rfl⟩
    go_wp2_with fail
    refine HN.out.mono ?_
    rintro e wz ⟨rfl, rfl⟩
    go_wp2_with fail
    refine HWI.out.mono ?_
    rintro e wz ⟨rfl, rfl⟩
    go_wp2_with fail
    refine HA2.out.mono ?_
    rintro e wz ⟨rfl, rfl⟩
    go_upto_region 23 with fail
    go_quiet (fail)
    go_wp2
    all_goals go_ret
    all_goals exact ⟨rfl, belowDrewN (Below.refl _ _) _⟩
  · have z2 : (m.kind == 1) = false := by simpa using hmk
    have hkw : (mw.kind == 1) = true := by
      by_cases e : mw.kind = 1
      · simp [e, hmk] at hkk ⊢
      · simp [e, hmk] at hkk ⊢
    generalize (G kd).ents.length = L at *
    generalize (G kb).ents.length = Ly at *
    clear h hd hq hk hkb hf hx hi hi2 hok hl1 hl2 hl3 hs f1 hmk hbe hfa hj hj2 hsy hl3y hly f1y HF hwx hw hkk
    go_enter Try.func67, Try.ntmps67
    go_wp2_with fail
    refine HI1.out.mono ?_
    rintro e wz ⟨rfl, rfl⟩
    go_wp2_with fail
    refine HI2.out.mono ?_
    rintro e wz ⟨rfl, rfl⟩
    go_wp2_with fail
    refine HA.out.mono ?_
    rintro e wz ⟨rfl, rfl⟩
    go_wp2_with fail
    refine HN.out.mono ?_
    rintro e wz ⟨rfl, rfl⟩
    go_wp2_with fail
    refine HA2.out.mono ?_
    rintro e wz ⟨rfl, rfl⟩
    go_upto_region 23 with fail
    go_quiet (fail)
    go_wp2
    all_goals go_ret
    all_goals exact ⟨rfl, belowDrewN (Below.refl _ _) _⟩
set_option maxRecDepth 100000 in
set_option maxHeartbeats 4000000 in
theorem rf_move_kept {w : World} {t B : Nat} {G : Gt} {T : IT.Tr} (h : Trf w t B G T) {kd kb : Nat} (s sa : ByteArray) {n q : IT.Nd} (hd : T kd = some n) (hq : T kb = some q) (hk : n.kind = 1) (hkb : q.kind = 1) {kx i : Nat} {m : IT.Nd} (hf : IT.findN (bs s) n.names = some kx) (hx : T kx = some m) (hi : (G kd).ents[i]? = some (s, kx)) (hi2 : ∀ (j : Nat) (p : ByteArray × Nat), j < i → (G kd).ents[j]? = some p → p.1 ≠ s) (hok : okN (bs sa) = true) (hbe : ¬ (m.kind = 1 ∧ IT.Bel T kx kb)) {kw j : Nat} (hfa : IT.findN (bs sa) q.names = some kw) (hj : (G kb).ents[j]? = some (sa, kw)) (hj2 : ∀ (l : Nat) (p : ByteArray × Nat), l < j → (G kb).ents[l]? = some p → p.1 ≠ sa) {mw : IT.Nd} (hwx : kw ≠ kx) (hw : T kw = some mw) (hkk : mw.kind = 1 ↔ m.kind = 1) (hmw : mw.names ≠ []) :
    Calls Try.prog 67 #[.pointer (some ⟨t, 0, none⟩), .int .i64 (kd : Int), .string s, .int .i64 (kb : Int), .string sa] w fun e w' => e = .returned (.int .i64 8) ∧ Below w.heap.size w w' := by
  have HI1 := Lib.hid (rf_is_yes h (kd : Int) hd)
  have HI2 := Lib.hid (rf_is_yes h (kb : Int) hq)
  obtain ⟨hd1, hd2⟩ := h.snd.1.rng kd n hd
  obtain ⟨hb1, hb2⟩ := h.snd.1.rng kb q hq
  have c0 := h.rep.cellT
  have b1 := h.rep.c1 kd hd2
  rw [(h.ties.sok kd n hd).kind] at b1
  have y1 := h.rep.c1 kb hb2
  rw [(h.ties.sok kb q hq).kind] at y1
  rw [hk] at b1
  rw [hkb] at y1
  obtain ⟨hx1, hx2⟩ := h.snd.1.rng kx m hx
  have HA := Lib.hid (rf_at_some h.rep kd hd2 s hi hi2)
  have HN := Lib.hid (rname_ok sa w)
  rw [hok] at HN
  have b9 := h.rep.c9 kd hd2
  obtain ⟨a, cap, hs, hl1, hl2, hl3⟩ := (h.rep.ents kd hd2).lit
  rw [hs] at b9
  obtain ⟨g, rfl, f1, f2⟩ := hl3 i _ hi
  have hil : i < (G kd).ents.length := (List.getElem?_eq_some_iff.1 hi).1
  have hl40 : (G kd).ents.length ≤ 40 := h.ties.few h.snd.1 kd hd2
  have x1 := h.rep.c1 kx hx2
  rw [(h.ties.sok kx m hx).kind] at x1
  have y9 := h.rep.c9 kb hb2
  obtain ⟨ay, capy, hsy, _, _, hl3y⟩ := (h.rep.ents kb hb2).lit
  rw [hsy] at y9
  have hly40 : (G kb).ents.length ≤ 40 := h.ties.few h.snd.1 kb hb2
  have hly : q.names.length = (G kb).ents.length := by have := (h.ties.sok kb q hq).names.length_eq; unfold ents at this; rw [List.length_map] at this; exact this.symm
  have HA2 := Lib.hid (rf_at_some h.rep kb hb2 sa hj hj2)
  obtain ⟨gy, rfl, f1y, f2y⟩ := hl3y j _ hj
  have hjl : j < (G kb).ents.length := (List.getElem?_eq_some_iff.1 hj).1
  obtain ⟨hw1, hw2⟩ := h.snd.1.rng kw mw hw
  have w1 := h.rep.c1 kw hw2
  rw [(h.ties.sok kw mw hw).kind] at w1
  have z4 : ((kw : Int) == (kx : Int)) = false := by simpa using (show ¬ (kw : Int) = (kx : Int) by omega)
  have n1 : kx < 201 := by omega
  have n2 : (kx : Int) < 201 := by omega
  have n3 : kw < 201 := by omega
  have n4 : (kw : Int) < 201 := by omega
  have w9 := h.rep.c9 kw hw2
  obtain ⟨aw, capw, hsw, _, _, _⟩ := (h.rep.ents kw hw2).lit
  rw [hsw] at w9
  have hlw : (G kw).ents.length = mw.names.length := by have := (h.ties.sok kw mw hw).names.length_eq; unfold ents at this; rw [List.length_map] at this; exact this
  have hlw40 : (G kw).ents.length ≤ 40 := h.ties.few h.snd.1 kw hw2
  have hlw0 : (0 : Int) < (G kw).ents.length := by
    have : 0 < mw.names.length := List.length_pos_iff.2 hmw
    omega
  have HF := Lib.hid hf
  by_cases hmk : m.kind = 1
  · have hbe := fun hh => hbe ⟨hmk, hh⟩
    have HWI : Hid (Calls Try.prog 87 #[.pointer (some ⟨t, 0, none⟩), .int .i64 (kb : Int), .int .i64 (kx : Int)] w fun e w' => e = .returned (.bool false) ∧ w = w') := Lib.hid ((rf_within h kb kx hq hkb).mono (by
      rintro e w' ⟨c, rfl, hc, rfl⟩
      cases c with
      | false => exact ⟨rfl, rfl⟩
      | true => exact absurd (hc.1 rfl) hbe))
    rw [hmk] at x1
    have hkw : (mw.kind == 1) = true := by
      by_cases e : mw.kind = 1
      · simp [e, hmk] at hkk ⊢
      · simp [e, hmk] at hkk ⊢
    generalize (G kd).ents.length = L at *
    generalize (G kb).ents.length = Ly at *
    generalize (G kw).ents.length = Lw at *
    clear h hd hq hk hkb hf hx hi hi2 hok hl1 hl2 hl3 hs f1 hmk hbe hfa hj hj2 hsy hl3y hly f1y HF hwx hw hkk hmw hlw hsw
    go_enter Try.func67, Try.ntmps67
    go_wp2_with fail
    refine HI1.out.mono ?_
    rintro e wz ⟨rfl, rfl⟩
    go_wp2_with fail
    refine HI2.out.mono ?_
    rintro e wz ⟨rfl, rfl⟩
    go_wp2_with fail
    refine HA.out.mono ?_
    rintro e wz ⟨rfl, rfl⟩
    go_wp2_with fail
    refine HN.out.mono ?_
    rintro e wz ⟨rfl, rfl⟩
    go_wp2_with fail
    refine HWI.out.mono ?_
    rintro e wz ⟨rfl, rfl⟩
    go_wp2_with fail
    refine HA2.out.mono ?_
    rintro e wz ⟨rfl, rfl⟩
    go_upto_region 23 with fail
    go_quiet (fail)
    go_wp2
    all_goals go_ret
    all_goals exact ⟨rfl, belowDrewN (Below.refl _ _) _⟩
  · have z2 : (m.kind == 1) = false := by simpa using hmk
    have hkw : (mw.kind == 1) = false := by
      by_cases e : mw.kind = 1
      · simp [e, hmk] at hkk ⊢
      · simp [e, hmk] at hkk ⊢
    generalize (G kd).ents.length = L at *
    generalize (G kb).ents.length = Ly at *
    generalize (G kw).ents.length = Lw at *
    clear h hd hq hk hkb hf hx hi hi2 hok hl1 hl2 hl3 hs f1 hmk hbe hfa hj hj2 hsy hl3y hly f1y HF hwx hw hkk hmw hlw hsw
    go_enter Try.func67, Try.ntmps67
    go_wp2_with fail
    refine HI1.out.mono ?_
    rintro e wz ⟨rfl, rfl⟩
    go_wp2_with fail
    refine HI2.out.mono ?_
    rintro e wz ⟨rfl, rfl⟩
    go_wp2_with fail
    refine HA.out.mono ?_
    rintro e wz ⟨rfl, rfl⟩
    go_wp2_with fail
    refine HN.out.mono ?_
    rintro e wz ⟨rfl, rfl⟩
    go_wp2_with fail
    refine HA2.out.mono ?_
    rintro e wz ⟨rfl, rfl⟩
    go_upto_region 23 with fail
    go_quiet (fail)
    go_wp2
    all_goals go_ret
    all_goals exact ⟨rfl, belowDrewN (Below.refl _ _) _⟩
end Go.Proofs.Ytafonmnfeibaiaa.RF
namespace Go.Proofs.Ytafonmnfeibaiaa.RF
open Go.RowKit

/-! ### the document's tree: Move, plainly -/
theorem Tie.less2 {G : Gt} {T : IT.Tr} (h : Tie G T) {d i x : Nat} {n : IT.Nd} (ho : IT.Ord n.names) (hd : T d = some n) (s : ByteArray) (v : Value) (hi : (G d).ents[i]? = some (s, x)) (hf : IT.findN (bs s) n.names = some x) : Tie (updG G d { G d with sl := v, ents := (G d).ents.take i ++ (G d).ents.drop (i + 1) }) (IT.upd T d (some { n with names := IT.delN (bs s) n.names })) := by
  have hk := h.sok d n hd
  exact h.set d ⟨hk.is, hk.kind, hk.mode, hk.owner, hk.group, hk.tty, hk.holds, hk.parent, hk.data, less_perm ho hk.names hi hf⟩
theorem Tie.find2 {G : Gt} {T : IT.Tr} (h : Tie G T) {k : Nat} {m : IT.Nd} (hk : T k = some m) (ho : IT.Ord m.names) {s : ByteArray} {x : Nat} (hf : IT.findN (bs s) m.names = some x) : ∃ i : Nat, (G k).ents[i]? = some (s, x) ∧ ∀ (j : Nat) (p : ByteArray × Nat), j < i → (G k).ents[j]? = some p → p.1 ≠ s := by
  have e : IT.findN (bs s) m.names = look (G k).ents s := by
    rw [← IT.perm_find ho (h.sok k m hk).names, look_find]
  rw [e] at hf
  rcases look_idx s (G k).ents with ⟨h1, _⟩ | ⟨i, y, h1, h2, h3⟩
  · rw [h1] at hf; cases hf
  · rw [h1] at hf
    obtain rfl := Option.some.inj hf
    exact ⟨i, h2, h3⟩
theorem upd_upd (T : IT.Tr) (k : Nat) (a b : Option IT.Nd) : IT.upd (IT.upd T k a) k b = IT.upd T k b := by
  funext j
  unfold IT.upd
  by_cases e : j = k
  · rw [if_pos e, if_pos e]
  · rw [if_neg e, if_neg e, if_neg e]
theorem less_few {G : Gt} {d i : Nat} {v : Value} (k : Nat) (h : (G k).ents.length ≤ 40) : ((updG G d { G d with sl := v, ents := (G d).ents.take i ++ (G d).ents.drop (i + 1) }) k).ents.length ≤ 40 := by
  by_cases e : k = d
  · subst e
    rw [updG_same]
    show ((G k).ents.take i ++ (G k).ents.drop (i + 1)).length ≤ 40
    rw [List.length_append, List.length_take, List.length_drop]
    omega
  · rw [updG_other _ _ e]; exact h
/-- At the end: the hold is given back. -/
theorem Tie.endF {G : Gt} {T : IT.Tr} (h : Tie G T) {k : Nat} {m : IT.Nd} (hk : T k = some { m with holds := m.holds + 1 }) {hv : Int} (hh : ((m.holds + 1 : Nat) : Int) = hv) : Tie (updG G k { G k with holds := hv - 1 }) (IT.upd T k (some m)) := by
  have hp := h.sok k _ hk
  exact h.set k ⟨hp.is, hp.kind, hp.mode, hp.owner, hp.group, hp.tty, by show hv - 1 = (m.holds : Int); omega, hp.parent, hp.data, hp.names⟩
theorem Tie.endD {G : Gt} {T : IT.Tr} (h : Tie G T) {k : Nat} {m : IT.Nd} (hk : T k = some { m with holds := m.holds + 1 }) (hm : m.kind = 1) {hv : Int} (hh : ((m.holds + 1 : Nat) : Int) = hv) (p : Nat) : Tie (updG (updG G k { G k with parent := (p : Int) }) k { (updG G k { G k with parent := (p : Int) }) k with holds := hv - 1 }) (IT.upd T k (some { m with parent := p })) := by
  have h4 := h.par hk hm p
  have hp := h4.sok k _ (IT.upd_same _ _ _)
  have := h4.set k (n := { (updG G k { G k with parent := (p : Int) }) k with holds := hv - 1 }) (m := { m with parent := p }) ⟨hp.is, hp.kind, hp.mode, hp.owner, hp.group, hp.tty, by show hv - 1 = (m.holds : Int); omega, hp.parent, hp.data, hp.names⟩
  rw [upd_upd] at this
  exact this
theorem under_alone (b x : Nat) (m : IT.Nd) : IT.under b (IT.alone x m) = IT.under b m := by
  unfold IT.under IT.alone
  by_cases e : m.kind = 1
  · rw [if_pos e, if_pos (show ({ m with parent := x } : IT.Nd).kind = 1 from e), if_pos e]
  · rw [if_neg e, if_neg e]
theorem upd_eq {S : IT.Tr} {k : Nat} {o : Option IT.Nd} {j : Nat} (h : j = k) : IT.upd S k o j = o := if_pos h
theorem upd_ne {S : IT.Tr} {k : Nat} {o : Option IT.Nd} {j : Nat} (h : ¬ j = k) : IT.upd S k o j = S j := if_neg h
/-- To a name that is free. -/
theorem move_eq_none {S : IT.Tr} {d b x : Nat} {nm ns : IT.Bytes} {n qb q1 m : IT.Nd} {mh : Option IT.Nd} (hxd : x ≠ d) (hxb : x ≠ b) (hq : qb = q1) :
    IT.upd (IT.upd (IT.upd (IT.upd S x mh) d (some { n with names := IT.delN nm n.names })) b (some { qb with names := IT.insN ns x qb.names })) x (some (IT.under b m)) = IT.entT (IT.delT S d x nm n m) b x ns q1 (IT.alone x m) := by
  subst hq
  funext j
  unfold IT.entT IT.delT
  rw [under_alone]
  by_cases e1 : j = x
  · subst e1; rw [upd_eq rfl, upd_ne hxb, upd_eq rfl]
  · rw [upd_ne e1]
    by_cases e2 : j = b
    · subst e2; rw [upd_eq rfl, upd_eq rfl]
    · rw [upd_ne e2, upd_ne e2, upd_ne e1]
      by_cases e3 : j = d
      · subst e3; rw [upd_eq rfl, upd_eq rfl]
      · rw [upd_ne e3, upd_ne e3, upd_ne e1, upd_ne e1]
theorem del_comm (a b : IT.Bytes) (l : List (IT.Bytes × Nat)) : IT.delN a (IT.delN b l) = IT.delN b (IT.delN a l) := by
  unfold IT.delN
  rw [List.filter_filter, List.filter_filter]
  congr 1
  funext p
  exact Bool.and_comm _ _
/-- Over an entry that is there. -/
theorem move_eq_some {S : IT.Tr} {d b x y : Nat} {nm ns : IT.Bytes} {n q na qb q1 m mw : IT.Nd} {mh : Option IT.Nd} (hxd : x ≠ d) (hxb : x ≠ b) (hyx : y ≠ x) (hyd : y ≠ d) (hyb : y ≠ b) (hnq : d = b → n = q)
    (hna : na = if d = b then { q with names := IT.delN ns q.names } else n) (hqb : qb = if d = b then { na with names := IT.delN nm na.names } else { q with names := IT.delN ns q.names }) (hq1 : q1 = if b = d then { n with names := IT.delN nm n.names } else q) :
    IT.upd (IT.upd (IT.upd (IT.upd (IT.upd (IT.upd S x mh) y (some (IT.alone y mw))) b (some { q with names := IT.delN ns q.names })) d (some { na with names := IT.delN nm na.names })) b (some { qb with names := IT.insN ns x qb.names })) x (some (IT.under b m)) = IT.entT (IT.delT (IT.delT S d x nm n m) b y ns q1 mw) b x ns { q1 with names := IT.delN ns q1.names } (IT.alone x m) := by
  have key : ({ qb with names := IT.insN ns x qb.names } : IT.Nd) = { ({ q1 with names := IT.delN ns q1.names } : IT.Nd) with names := IT.insN ns x ({ q1 with names := IT.delN ns q1.names } : IT.Nd).names } := by
    by_cases e : d = b
    · have := hnq e
      subst this
      rw [if_pos e] at hna hqb
      rw [if_pos e.symm] at hq1
      subst hna hqb hq1
      show ({ n with names := IT.insN ns x (IT.delN nm (IT.delN ns n.names)) } : IT.Nd) = { n with names := IT.insN ns x (IT.delN ns (IT.delN nm n.names)) }
      rw [del_comm]
    · rw [if_neg e] at hna hqb
      rw [if_neg (Ne.symm e)] at hq1
      subst hqb hq1
      rfl
  funext j
  unfold IT.entT IT.delT
  rw [under_alone, key]
  by_cases e1 : j = x
  · subst e1; rw [upd_eq rfl, upd_ne hxb, upd_eq rfl]
  · rw [upd_ne e1]
    by_cases e2 : j = b
    · subst e2; rw [upd_eq rfl, upd_eq rfl]
    · rw [upd_ne e2, upd_ne e2, upd_ne e1, upd_ne e2]
      by_cases e3 : j = d
      · subst e3
        have e4 : ¬ j = b := e2
        rw [upd_eq rfl, upd_ne (Ne.symm hyd), upd_eq rfl]
        rw [if_neg e4] at hna
        rw [hna]
      · rw [upd_ne e3, upd_ne e2]
        by_cases e5 : j = y
        · subst e5; rw [upd_eq rfl, upd_eq rfl]
        · rw [upd_ne e5, upd_ne e5, upd_ne e1, upd_ne e3, upd_ne e1]
end Go.Proofs.Ytafonmnfeibaiaa.RF
namespace Go.Proofs.Ytafonmnfeibaiaa.RF
open Go.RowKit

set_option maxRecDepth 100000 in
set_option maxHeartbeats 4000000 in
theorem rf_move_to {w : World} {t B : Nat} {G : Gt} {T : IT.Tr} (h : Trf w t B G T) (hb : HB T 1000000) {kd kb : Nat} (s sa : ByteArray) {n q : IT.Nd} (hd : T kd = some n) (hq : T kb = some q) (hk : n.kind = 1) (hkb : q.kind = 1) {kx i : Nat} {m : IT.Nd} (hf : IT.findN (bs s) n.names = some kx) (hx : T kx = some m) (hi : (G kd).ents[i]? = some (s, kx)) (hi2 : ∀ (j : Nat) (p : ByteArray × Nat), j < i → (G kd).ents[j]? = some p → p.1 ≠ s) (hok : okN (bs sa) = true) (hbe : ¬ (m.kind = 1 ∧ IT.Bel T kx kb)) (hfa : IT.findN (bs sa) q.names = none) (hfull : ¬ (kd ≠ kb ∧ q.names.length ≥ 40)) :
    Calls Try.prog 67 #[.pointer (some ⟨t, 0, none⟩), .int .i64 (kd : Int), .string s, .int .i64 (kb : Int), .string sa] w fun e w' => e = .returned (.int .i64 0) ∧ Stf w t B (fun T' => IT.isMove okN T kd (bs s) kb (bs sa) 0 T') w' := by
  have HI1 := Lib.hid (rf_is_yes h (kd : Int) hd)
  have HI2 := Lib.hid (rf_is_yes h (kb : Int) hq)
  obtain ⟨hd1, hd2⟩ := h.snd.1.rng kd n hd
  obtain ⟨hb1, hb2⟩ := h.snd.1.rng kb q hq
  have c0 := h.rep.cellT
  have b1 := h.rep.c1 kd hd2
  rw [(h.ties.sok kd n hd).kind] at b1
  have y1 := h.rep.c1 kb hb2
  rw [(h.ties.sok kb q hq).kind] at y1
  rw [hk] at b1
  rw [hkb] at y1
  obtain ⟨hx1, hx2⟩ := h.snd.1.rng kx m hx
  have HA := Lib.hid (rf_at_some h.rep kd hd2 s hi hi2)
  have HN := Lib.hid (rname_ok sa w)
  rw [hok] at HN
  have b9 := h.rep.c9 kd hd2
  obtain ⟨a, cap, hs, hl1, hl2, hl3⟩ := (h.rep.ents kd hd2).lit
  rw [hs] at b9
  obtain ⟨g, rfl, f1, f2⟩ := hl3 i _ hi
  have hil : i < (G kd).ents.length := (List.getElem?_eq_some_iff.1 hi).1
  have hl40 : (G kd).ents.length ≤ 40 := h.ties.few h.snd.1 kd hd2
  have x1 := h.rep.c1 kx hx2
  rw [(h.ties.sok kx m hx).kind] at x1
  have y9 := h.rep.c9 kb hb2
  obtain ⟨ay, capy, hsy, _, _, hl3y⟩ := (h.rep.ents kb hb2).lit
  rw [hsy] at y9
  have hly40 : (G kb).ents.length ≤ 40 := h.ties.few h.snd.1 kb hb2
  have hly : q.names.length = (G kb).ents.length := by have := (h.ties.sok kb q hq).names.length_eq; unfold ents at this; rw [List.length_map] at this; exact this.symm
  have HA2 := Lib.hid (rf_at_none h.rep kb hb2 sa ((h.ties.find h.snd.1 hq sa).resolve_right (fun ⟨i, y, e, _⟩ => by rw [hfa] at e; cases e)).2)
  obtain ⟨hxd, hxb, hxr⟩ := IT.move_ne h.snd hd hq hk hkb hf hx hok hbe
  have x6 := h.rep.c6 kx hx2
  rw [(h.ties.sok kx m hx).holds] at x6
  have s6 := h.rep.frozen (kx * 10 + 6)
  have hle : (m.holds : Int) ≤ 1000000 := by have := hb kx m hx; omega
  have hkx := h.ties.sok kx m hx
  have ht1 := h.ties.set kx (n := { G kx with holds := (m.holds : Int) + 1 }) (m := { m with holds := m.holds + 1 }) ⟨hkx.is, hkx.kind, hkx.mode, hkx.owner, hkx.group, hkx.tty, rfl, hkx.parent, hkx.data, hkx.names⟩
  have e1d : (updG G kx { G kx with holds := (m.holds : Int) + 1 }) kd = G kd := updG_other _ _ (Ne.symm hxd)
  have e1b : (updG G kx { G kx with holds := (m.holds : Int) + 1 }) kb = G kb := updG_other _ _ (Ne.symm hxb)
  obtain ⟨q1, hq1, hq1k, hq1e⟩ := IT.move_q h.snd hd hq hk hkb hf hx hok hbe
  have hrf1 := h.rep.set hx2 (show 6 < 10 by omega) (.int .i64 ((m.holds : Int) + 1)) { G kx with holds := (m.holds : Int) + 1 } rfl (h.rep.ents kx hx2)
  have hmo1 := (Mo.refl B w).set (i := kx * 10 + 6) (.int .i64 ((m.holds : Int) + 1))
  obtain ⟨TF, hTF⟩ : ∃ TF, IT.entT (IT.delT T kd kx (bs s) n m) kb kx (bs sa) q1 (IT.alone kx m) = TF := ⟨_, rfl⟩
  have hmv : IT.isMove okN T kd (bs s) kb (bs sa) 0 TF := by
    unfold IT.isMove
    rw [hd, hq]
    dsimp only
    rw [if_neg (fun hh => hh.elim (fun e => e hk) (fun e => e hkb)), hf]
    dsimp only
    refine ⟨m, hx, ?_⟩
    rw [if_neg (by rw [hok]; intro e; cases e), if_neg hbe, hfa]
    dsimp only
    rw [if_neg hfull]
    exact ⟨rfl, q1, IT.alone kx m, hq1, IT.del_at_x hxd, hTF.symm⟩
  have HEND : Hid (∀ G5 w5, Rf w5 t B G5 → Tie G5 TF → Mo B w w5 → Calls Try.prog 83 #[.pointer (some ⟨t, 0, none⟩)] w5 fun e w' => e = .returned (.tuple #[]) ∧ Stf w t B (fun T' => IT.isMove okN T kd (bs s) kb (bs sa) 0 T') w') := Lib.hid (fun G5 w5 hr ht hm => (rf_gone hr ht (IT.isMove.sound hmv h.snd).1).mono (by
    rintro e w' ⟨rfl, hs⟩
    refine ⟨rfl, (Stf.pre hm hs).imp fun T' hT' => ?_⟩
    rw [IT.NF.unique hT' (.done (IT.isMove.sound hmv h.snd).2)]
    exact hmv))
  have hqb0 : ∃ qb, (IT.upd (IT.upd T kx (some { m with holds := m.holds + 1 })) kd (some { n with names := IT.delN (bs s) n.names })) kb = some qb ∧ qb = q1 := by
    refine ⟨q1, ?_, rfl⟩
    rw [hq1e]
    by_cases e : kb = kd
    · rw [if_pos e, upd_eq e]
    · rw [if_neg e, upd_ne e, upd_ne (Ne.symm hxb)]; exact hq
  obtain ⟨qb, hqb, hqbe⟩ := hqb0
  have HFX0 := move_eq_none (S := T) (mh := some { m with holds := m.holds + 1 }) (nm := bs s) (ns := bs sa) (n := n) (m := m) hxd hxb hqbe
  rw [hTF] at HFX0
  have hx3 : (IT.upd (IT.upd (IT.upd T kx (some { m with holds := m.holds + 1 })) kd (some { n with names := IT.delN (bs s) n.names })) kb (some { qb with names := IT.insN (bs sa) kx qb.names })) kx = some { m with holds := m.holds + 1 } := by
    rw [upd_ne hxb, upd_ne hxd, upd_eq rfl]
  have hna : (IT.upd T kx (some { m with holds := m.holds + 1 })) kd = some n := by rw [upd_ne (Ne.symm hxd)]; exact hd
  have hoa := h.snd.1.ord kd n hd
  have h4a : (updG G kx { G kx with holds := (m.holds : Int) + 1 } kd).ents.length ≤ 40 := by rw [e1d]; exact hl40
  have h4b : (updG G kx { G kx with holds := (m.holds : Int) + 1 } kb).ents.length ≤ 40 := by rw [e1b]; exact hly40
  obtain ⟨Ga, hGa⟩ : ∃ Ga, updG G kx { G kx with holds := (m.holds : Int) + 1 } = Ga := ⟨_, rfl⟩
  rw [hGa] at ht1 hrf1 h4a h4b
  have HRFa := Lib.hid hrf1
  have HMa := Lib.hid hmo1
  have HTa := Lib.hid ht1
  have HNa := Lib.hid hna
  have HOa := Lib.hid hoa
  have HFa := Lib.hid hf
  have H4a := Lib.hid h4a
  have H4b := Lib.hid h4b
  have HQB := Lib.hid hqb
  have HX3 := Lib.hid hx3
  have hroom : ((40 : Int) ≤ (G kb).ents.length ∧ ((kb : Int) == (kd : Int)) = true) ∨ ((G kb).ents.length : Int) < 40 := by
    by_cases e : kd = kb
    · by_cases e2 : ((G kb).ents.length : Int) < 40
      · exact .inr e2
      · exact .inl ⟨by omega, by simp [e]⟩
    · refine .inr ?_
      have : ¬ q.names.length ≥ 40 := fun hh => hfull ⟨e, hh⟩
      omega
  generalize (G kd).ents.length = L0 at *
  generalize (G kb).ents.length = Ly at *
  clear hrf1 hmo1 ht1 hna hoa h4a h4b hqb hx3 hTF hmv hqbe hq1 hq1k hq1e hkx e1d e1b hGa hxd hxb hxr hfa hfull hly hl1 hl2 hl3 hs f1 hsy hl3y hi hi2
  by_cases hmk : m.kind = 1
  case' pos =>
    have HFX : Hid (IT.upd (IT.upd (IT.upd (IT.upd T kx (some { m with holds := m.holds + 1 })) kd (some { n with names := IT.delN (bs s) n.names })) kb (some { qb with names := IT.insN (bs sa) kx qb.names })) kx (some { m with parent := kb }) = TF) := Lib.hid (by
      rw [← HFX0]; unfold IT.under; rw [if_pos hmk])
    have HKD := Lib.hid hmk
    have hbe := fun hh => hbe ⟨hmk, hh⟩
    have HWI : Hid (Calls Try.prog 87 #[.pointer (some ⟨t, 0, none⟩), .int .i64 (kb : Int), .int .i64 (kx : Int)] w fun e w' => e = .returned (.bool false) ∧ w = w') := Lib.hid ((rf_within h kb kx hq hkb).mono (by
      rintro e w' ⟨c, rfl, hc, rfl⟩
      cases c with
      | false => exact ⟨rfl, rfl⟩
      | true => exact absurd (hc.1 rfl) hbe))
    rw [hmk] at x1
    clear h hd hq hk hkb hf hx hok hmk hbe HFX0 hb
    rcases hroom with ⟨hL1, z3⟩ | hL1
    all_goals
      go_enter Try.func67, Try.ntmps67
      go_wp2_with fail
      refine HI1.out.mono ?_
      rintro e wz ⟨rfl, rfl⟩
      go_wp2_with fail
      refine HI2.out.mono ?_
      rintro e wz ⟨rfl, rfl⟩
      go_wp2_with fail
      refine HA.out.mono ?_
      rintro e wz ⟨rfl, rfl⟩
      go_wp2_with fail
      refine HN.out.mono ?_
      rintro e wz ⟨rfl, rfl⟩
      go_wp2_with fail
      refine HWI.out.mono ?_
      rintro e wz ⟨rfl, rfl⟩
      go_wp2_with fail
      refine HA2.out.mono ?_
      rintro e wz ⟨rfl, rfl⟩
      go_wp2_with fail
  case' neg =>
    have HFX : Hid (IT.upd (IT.upd (IT.upd (IT.upd T kx (some { m with holds := m.holds + 1 })) kd (some { n with names := IT.delN (bs s) n.names })) kb (some { qb with names := IT.insN (bs sa) kx qb.names })) kx (some m) = TF) := Lib.hid (by
      rw [← HFX0]; unfold IT.under; rw [if_neg hmk])
    have z2 : (m.kind == 1) = false := by simpa using hmk
    clear h hd hq hk hkb hf hx hok hmk hbe HFX0 hb
    rcases hroom with ⟨hL1, z3⟩ | hL1
    all_goals
      go_enter Try.func67, Try.ntmps67
      go_wp2_with fail
      refine HI1.out.mono ?_
      rintro e wz ⟨rfl, rfl⟩
      go_wp2_with fail
      refine HI2.out.mono ?_
      rintro e wz ⟨rfl, rfl⟩
      go_wp2_with fail
      refine HA.out.mono ?_
      rintro e wz ⟨rfl, rfl⟩
      go_wp2_with fail
      refine HN.out.mono ?_
      rintro e wz ⟨rfl, rfl⟩
      go_wp2_with fail
      refine HA2.out.mono ?_
      rintro e wz ⟨rfl, rfl⟩
      go_wp2_with fail
  all_goals
    clear c0 b1 y1 x1 b9 y9 x6 s6 f2
    have hrfa := HRFa.out
    have hmoa := HMa.out
    clear HRFa HMa
    generalize w.setCell ⟨B, kx * 10 + 6, none⟩ (.int .i64 ((m.holds : Int) + 1)) = Wa at *
    have HRFa := Lib.hid hrfa
    have HMa := Lib.hid hmoa
    clear hrfa hmoa
    obtain ⟨i2, hi3, hi4⟩ := HTa.out.find2 HNa.out HOa.out HFa.out
    refine (rf_at_some HRFa.out kd hd2 s hi3 hi4).mono ?_
    rintro e wz ⟨rfl, rfl⟩
    have HLB := Lib.hid (fun (v : Value) => less_few (G := Ga) (d := kd) (i := i2) (v := v) kb H4b.out)
    have HT2 := Lib.hid (fun v => HTa.out.less2 HOa.out HNa.out s v hi3 HFa.out)
    have hwo := rf_without HRFa.out kd i2 hd2 (List.getElem?_eq_some_iff.1 hi3).1 H4a.out
    clear hi3 hi4
    have HWO := Lib.hid hwo
    clear hwo
    go_wp2_with fail
    refine HWO.out.mono ?_
    rintro e W2 ⟨rfl, v2, hrf, hmo2⟩
    have HM1 := Lib.hid (HMa.out.trans hmo2)
    have ht2 := HT2.out v2
    have hl40 := HLB.out v2
    obtain ⟨G2, hG2⟩ : ∃ G2, updG Ga kd { Ga kd with sl := v2, ents := (Ga kd).ents.take i2 ++ (Ga kd).ents.drop (i2 + 1) } = G2 := ⟨_, rfl⟩
    rw [hG2] at hrf ht2 hl40
    have HTI2 := Lib.hid ht2
    clear hG2 hmo2 ht2
    go_upto_region 37 with fail
    obtain ⟨i0, hi0, hz0, hz1, hz2⟩ := info_parts info_entry
    have HT3 := Lib.hid (fun v => HTI2.out.more HQB.out (x := kx) sa v)
    obtain ⟨E, hE1⟩ : ∃ E, (G2 kb).ents = E := ⟨_, rfl⟩
    obtain ⟨a, cap, hs1, _, _, _⟩ := (hrf.ents kb hb2).lit
    obtain ⟨L, hL⟩ : ∃ L, E.length = L := ⟨_, rfl⟩
    rw [hE1, hL] at hs1
    rw [hE1, hL] at hl40
    have hL2 : L < 41 := by omega
    have HLE := Lib.hid hL
    have HG := Lib.hid hE1
    have HRF := Lib.hid hrf
    have hBL := hrf.ltB
    have hTL := hrf.ltT
    have hTB := hrf.ne
    have c0 := hrf.cellT
    have b9 := hrf.c9 kb hb2
    rw [hs1] at b9
    have C9 := Lib.hid b9
    have s9 := hrf.frozen (kb * 10 + 9)
    have HSRC : Hid (∀ W', Mo B W2 W' → W'.ownsRow 0 126 2 (.slice a L cap) L (flatE E)) := Lib.hid (fun W' hm => by
      have := EntAt.mo HRF.out (HRF.out.ents kb hb2) hm
      unfold EntAt at this
      rw [hs1, hE1, HLE.out] at this
      rw [← HLE.out] at this ⊢
      exact this)
    have n1 : kb < 201 := by omega
    have n2 : (kb : Int) < 201 := by omega
    clear hrf hs1 hE1 hL hl40
    refine wp_region_held_drew (S := (fun W' => Mo B W2 W' ∧ W'.cell? ⟨t, 0, none⟩ = some (.slice (some ⟨B, 0, none⟩) 201 201) ∧ W'.frozen? ⟨B, kb * 10 + 9, none⟩ = false)) (by kernel_rfl) (Sy.below (Below.refl _ _).drew hTL hBL (Sy.start HRF.out _)) (fun hHeld => ?_)
    refine wpAnyH_take (i := 0) (v := ?_) rfl (by kernel_rfl) (by kernel_rfl) (by kernel_rfl) (fun _ _ _ h => h) (Or.inl ⟨by rfl, ?_⟩) (by assumption) ?_
    rotate_left
    · (intro W hSw; (try dsimp only at hSw); go_simp; try with_reducible rfl)
    try simp only [List.getElem_toArray, List.getElem_cons_zero, List.getElem_cons_succ, Act.put, List.setIfInBounds_toArray, List.set_cons_zero, List.set_cons_succ]
    refine wpAnyH_take (i := 1) (v := ?_) rfl (by kernel_rfl) (by kernel_rfl) (by kernel_rfl) (fun _ _ _ h => h) (Or.inl ⟨by rfl, ?_⟩) (by assumption) ?_
    rotate_left
    · (intro W hSw; (try dsimp only at hSw); go_simp; try with_reducible rfl)
    try simp only [List.getElem_toArray, List.getElem_cons_zero, List.getElem_cons_succ, Act.put, List.setIfInBounds_toArray, List.set_cons_zero, List.set_cons_succ]
    refine wpAnyH_take (i := 2) (v := ?_) rfl (by kernel_rfl) (by kernel_rfl) (by kernel_rfl) (fun _ _ _ h => h) (Or.inl ⟨by rfl, ?_⟩) (by assumption) ?_
    rotate_left
    · (intro W hSw; (try dsimp only at hSw); go_simp; try with_reducible rfl)
    try simp only [List.getElem_toArray, List.getElem_cons_zero, List.getElem_cons_succ, Act.put, List.setIfInBounds_toArray, List.set_cons_zero, List.set_cons_succ]
    refine wpAnyH_take (i := 3) (v := ?_) rfl (by kernel_rfl) (by kernel_rfl) (by kernel_rfl) (fun _ _ _ h => h) (Or.inl ⟨by rfl, ?_⟩) (by assumption) ?_
    rotate_left
    · (intro W hSw; (try dsimp only at hSw); go_simp; try with_reducible rfl)
    try simp only [List.getElem_toArray, List.getElem_cons_zero, List.getElem_cons_succ, Act.put, List.setIfInBounds_toArray, List.set_cons_zero, List.set_cons_succ]
    refine wpAnyH_take (i := 4) (v := ?_) rfl (by kernel_rfl) (by kernel_rfl) (by kernel_rfl) (fun _ _ _ h => h) (Or.inl ⟨by rfl, ?_⟩) (by assumption) ?_
    rotate_left
    · (intro W hSw; (try dsimp only at hSw); go_simp; try with_reducible rfl)
    try simp only [List.getElem_toArray, List.getElem_cons_zero, List.getElem_cons_succ, Act.put, List.setIfInBounds_toArray, List.set_cons_zero, List.set_cons_succ]
    refine wpAnyH_take (i := 6) (v := ?_) rfl (by kernel_rfl) (by kernel_rfl) (by kernel_rfl) (fun _ _ _ h => h) (Or.inl ⟨by rfl, ?_⟩) (by assumption) ?_
    rotate_left
    · (intro W hSw; (try dsimp only at hSw); go_simp; try with_reducible rfl)
    try simp only [List.getElem_toArray, List.getElem_cons_zero, List.getElem_cons_succ, Act.put, List.setIfInBounds_toArray, List.set_cons_zero, List.set_cons_succ]
    refine wpAnyH_take (i := 7) (v := ?_) rfl (by kernel_rfl) (by kernel_rfl) (by kernel_rfl) (fun _ _ _ h => h) (Or.inl ⟨by rfl, ?_⟩) (by assumption) ?_
    rotate_left
    · (intro W hSw; (try dsimp only at hSw); go_simp; try with_reducible rfl)
    try simp only [List.getElem_toArray, List.getElem_cons_zero, List.getElem_cons_succ, Act.put, List.setIfInBounds_toArray, List.set_cons_zero, List.set_cons_succ]
    refine wpAnyH_take (i := 8) (v := ?_) rfl (by kernel_rfl) (by kernel_rfl) (by kernel_rfl) (fun _ _ _ h => h) (Or.inl ⟨by rfl, ?_⟩) (by assumption) ?_
    rotate_left
    · (intro W hSw; (try dsimp only at hSw); go_simp; try with_reducible rfl)
    try simp only [List.getElem_toArray, List.getElem_cons_zero, List.getElem_cons_succ, Act.put, List.setIfInBounds_toArray, List.set_cons_zero, List.set_cons_succ]
    refine wpAnyH_take (i := 9) (v := ?_) rfl (by kernel_rfl) (by kernel_rfl) (by kernel_rfl) (fun _ _ _ h => h) (Or.inl ⟨by rfl, ?_⟩) (by assumption) ?_
    rotate_left
    · (intro W hSw; (try dsimp only at hSw); go_simp; try with_reducible rfl)
    try simp only [List.getElem_toArray, List.getElem_cons_zero, List.getElem_cons_succ, Act.put, List.setIfInBounds_toArray, List.set_cons_zero, List.set_cons_succ]
    refine wpAnyH_take (i := 10) (v := ?_) rfl (by kernel_rfl) (by kernel_rfl) (by kernel_rfl) (fun _ _ _ h => h) (Or.inl ⟨by rfl, ?_⟩) (by assumption) ?_
    rotate_left
    · (intro W hSw; (try dsimp only at hSw); go_simp; try with_reducible rfl)
    try simp only [List.getElem_toArray, List.getElem_cons_zero, List.getElem_cons_succ, Act.put, List.setIfInBounds_toArray, List.set_cons_zero, List.set_cons_succ]
    refine wpAnyH_take (i := 11) (v := ?_) rfl (by kernel_rfl) (by kernel_rfl) (by kernel_rfl) (fun _ _ _ h => h) (Or.inl ⟨by rfl, ?_⟩) (by assumption) ?_
    rotate_left
    · (intro W hSw; (try dsimp only at hSw); go_simp; try with_reducible rfl)
    try simp only [List.getElem_toArray, List.getElem_cons_zero, List.getElem_cons_succ, Act.put, List.setIfInBounds_toArray, List.set_cons_zero, List.set_cons_succ]
    refine wpAnyH_take (i := 12) (v := ?_) rfl (by kernel_rfl) (by kernel_rfl) (by kernel_rfl) (fun _ _ _ h => h) (Or.inl ⟨by rfl, ?_⟩) (by assumption) ?_
    rotate_left
    · (intro W hSw; (try dsimp only at hSw); go_simp; try with_reducible rfl)
    try simp only [List.getElem_toArray, List.getElem_cons_zero, List.getElem_cons_succ, Act.put, List.setIfInBounds_toArray, List.set_cons_zero, List.set_cons_succ]
    refine wpAnyH_take (i := 15) (v := ?_) rfl (by kernel_rfl) (by kernel_rfl) (by kernel_rfl) (fun _ _ _ h => h) (Or.inl ⟨by rfl, ?_⟩) (by assumption) ?_
    rotate_left
    · (intro W hSw; (try dsimp only at hSw); go_simp; try with_reducible rfl)
    try simp only [List.getElem_toArray, List.getElem_cons_zero, List.getElem_cons_succ, Act.put, List.setIfInBounds_toArray, List.set_cons_zero, List.set_cons_succ]
    refine wpAnyH_take (i := 16) (v := ?_) rfl (by kernel_rfl) (by kernel_rfl) (by kernel_rfl) (fun _ _ _ h => h) (Or.inl ⟨by rfl, ?_⟩) (by assumption) ?_
    rotate_left
    · (intro W hSw; (try dsimp only at hSw); go_simp; try with_reducible rfl)
    try simp only [List.getElem_toArray, List.getElem_cons_zero, List.getElem_cons_succ, Act.put, List.setIfInBounds_toArray, List.set_cons_zero, List.set_cons_succ]
    refine wpAnyH_take (i := 17) (v := ?_) rfl (by kernel_rfl) (by kernel_rfl) (by kernel_rfl) (fun _ _ _ h => h) (Or.inl ⟨by rfl, ?_⟩) (by assumption) ?_
    rotate_left
    · (intro W hSw; (try dsimp only at hSw); go_simp; try with_reducible rfl)
    try simp only [List.getElem_toArray, List.getElem_cons_zero, List.getElem_cons_succ, Act.put, List.setIfInBounds_toArray, List.set_cons_zero, List.set_cons_succ]
    refine wpAnyH_ready (rs := [5, 13, 18]) (by kernel_rfl) (by simp) ?_
    refine AllReadyH.cons rfl (fun K hK => ?_) ?_
    · simp only [List.getElem_toArray, List.getElem_cons_zero, List.getElem_cons_succ]
      go_simp
      refine hK.out _ _ ?_ (fun hHeld => ?_)
      · (try dsimp only); exact Sy.below ((Below.refl _ _).alloc (‹Mo B W2 _ ∧ _›).1.size _) hTL hBL ‹Mo B W2 _ ∧ _›
      clear hK K
      try simp only [List.getElem_toArray, List.getElem_cons_zero, List.getElem_cons_succ, Act.put, List.setIfInBounds_toArray, List.set_cons_zero, List.set_cons_succ]
      refine wpAnyH_ready (rs := [13, 18]) (by kernel_rfl) (by simp) ?_
      refine AllReadyH.cons rfl (fun K hK => ?_) ?_
      · simp only [List.getElem_toArray, List.getElem_cons_zero, List.getElem_cons_succ]
        go_simp
        refine hK.out _ _ ?_ (fun hHeld => ?_)
        · (try dsimp only); assumption
        clear hK K
        try simp only [List.getElem_toArray, List.getElem_cons_zero, List.getElem_cons_succ, Act.put, List.setIfInBounds_toArray, List.set_cons_zero, List.set_cons_succ]
        refine wpAnyH_ready (rs := [14, 18]) (by kernel_rfl) (by simp) ?_
        refine AllReadyH.cons rfl (fun K hK => ?_) ?_
        · refine step_app_row2 rfl (.tmp 217) (.tmp 225) 108 rfl W2.heap.size 126 i0 (.agg #[.string ⟨#[]⟩, .int .i64 0]) 24 Try.underlying108 hi0 hz0 hz1 hz2 rfl (.slice (some ⟨W2.heap.size, 0, none⟩) 0 0) 0 [] ?_ ?_ 0 (.slice a L cap) L (flatE E) ?_ ?_ ?_ ?_ ?_ ?_ ?_
          · simp [Act.eval, Act.put]; done
          · exact (own_empty _ _ _ _ rfl (Nat.le_refl _)).drew
          · simp [Act.eval, Act.put]; done
          · exact HSRC.out _ (‹Mo B W2 _ ∧ _›).1
          · exact fun u hu => flatE_one _ u hu
          · unfold maxLen; omega
          · omega
          · exact (‹Mo B W2 _ ∧ _›).1.size
          intro v5 w5 hown5 hgrow5 hbel5
          have hm5 : Mo B W2 w5 := (‹Mo B W2 _ ∧ _›).1.grow hbel5
          have hq5 : w5.heap[B]? = W2.heap[B]? := (hbel5.block B hBL).trans (Below.block (((Below.refl W2.heap.size W2).drew).alloc (Nat.le_refl _) _) B hBL)
          refine hK.out _ _ ?_ (fun hHeld => ?_)
          · (try dsimp only); exact Sy.below hbel5 hTL hBL ‹Mo B W2 _ ∧ _›
          clear hK K
          try simp only [List.getElem_toArray, List.getElem_cons_zero, List.getElem_cons_succ, Act.put, List.setIfInBounds_toArray, List.set_cons_zero, List.set_cons_succ]
          refine wpAnyH_ready (rs := [18]) (by kernel_rfl) (by simp) ?_
          refine AllReadyH.cons rfl (fun K hK => ?_) AllReadyH.nil
          simp only [List.getElem_toArray, List.getElem_cons_zero, List.getElem_cons_succ]
          go_simp
          refine hK.out _ _ ?_ (fun hHeld => ?_)
          · (try dsimp only); exact Sy.below ((Below.refl _ _).alloc (‹Mo B W2 _ ∧ _›).1.size _) hTL hBL ‹Mo B W2 _ ∧ _›
          clear hK K
          try simp only [List.getElem_toArray, List.getElem_cons_zero, List.getElem_cons_succ, Act.put, List.setIfInBounds_toArray, List.set_cons_zero, List.set_cons_succ]
          refine wpAnyH_ready (rs := [19]) (by kernel_rfl) (by simp) ?_
          refine AllReadyH.cons rfl (fun K hK => ?_) AllReadyH.nil
          refine step_app_row2 rfl (.tmp 226) (.tmp 230) 108 rfl W2.heap.size 126 i0 (.agg #[.string ⟨#[]⟩, .int .i64 0]) 24 Try.underlying108 hi0 hz0 hz1 hz2 rfl v5 (0 + L) ([] ++ flatE E) ?_ ?_ 0 (.slice (some ⟨w5.heap.size, 0, none⟩) 1 1) 1 [.string sa, .int .i64 (kx : Int)] ?_ ?_ ?_ ?_ ?_ ?_ ?_
          · simp [Act.eval, Act.put]; done
          · exact hown5.below2 ((Below.refl _ _).alloc (Nat.le_refl _) _)
          · simp [Act.eval, Act.put]; done
          · exact own_one _ _ _ _ _ rfl
          · exact fun u hu => by (simp only [List.mem_cons, List.not_mem_nil, or_false] at hu; rcases hu with rfl | rfl <;> rfl)
          · unfold maxLen; omega
          · omega
          · exact (‹Mo B W2 _ ∧ _›).1.size
          intro v8 w8 hown8 hgrow8 hbel8
          have hq8 : w8.heap[B]? = W2.heap[B]? := (hbel8.block B hBL).trans ((Below.block ((Below.refl _ w5).alloc (Nat.le_refl _) _) B (by have := hm5.size; omega)).trans hq5)
          have hm8 : Mo B W2 w8 := (‹Mo B W2 _ ∧ _›).1.grow hbel8
          obtain ⟨a8, n8, c8, rfl⟩ := own_slice hown8
          have hc8 : w8.cell? ⟨B, kb * 10 + 9, none⟩ = some (.slice a L cap) := (cell_block hq8 _).trans C9.out
          refine hK.out _ _ ?_ (fun hHeld => ?_)
          · (try dsimp only); exact Sy.below hbel8 hTL hBL ‹Mo B W2 _ ∧ _›
          clear hK K
          try simp only [List.getElem_toArray, List.getElem_cons_zero, List.getElem_cons_succ, Act.put, List.setIfInBounds_toArray, List.set_cons_zero, List.set_cons_succ]
          refine wpAnyH_take (i := 20) (v := ?_) rfl (by kernel_rfl) (by kernel_rfl) (by kernel_rfl) (fun _ _ _ h => h) (Or.inl ⟨by rfl, ?_⟩) (by assumption) ?_
          rotate_left
          · (intro W hSw; (try dsimp only at hSw); go_simp; try with_reducible rfl)
          try simp only [List.getElem_toArray, List.getElem_cons_zero, List.getElem_cons_succ, Act.put, List.setIfInBounds_toArray, List.set_cons_zero, List.set_cons_succ]
          refine wpAnyH_take (i := 21) (v := ?_) rfl (by kernel_rfl) (by kernel_rfl) (by kernel_rfl) (fun _ _ _ h => h) (Or.inl ⟨by rfl, ?_⟩) (by assumption) ?_
          rotate_left
          · (intro W hSw; (try dsimp only at hSw); go_simp; try with_reducible rfl)
          try simp only [List.getElem_toArray, List.getElem_cons_zero, List.getElem_cons_succ, Act.put, List.setIfInBounds_toArray, List.set_cons_zero, List.set_cons_succ]
          refine wpAnyH_ready (rs := [22]) (by kernel_rfl) (by simp) ?_
          refine AllReadyH.cons rfl (fun K hK => ?_) AllReadyH.nil
          simp only [List.getElem_toArray, List.getElem_cons_zero, List.getElem_cons_succ]
          go_simp
          refine hK.out _ _ ?_ (fun hHeld => ?_)
          · (try dsimp only); exact Sy.set hTB ‹Mo B W2 _ ∧ _› _
          clear hK K
          try simp only [List.getElem_toArray, List.getElem_cons_zero, List.getElem_cons_succ, Act.put, List.setIfInBounds_toArray, List.set_cons_zero, List.set_cons_succ]
          refine wpAnyH_done (by kernel_rfl) ?_ _
          have hRF := (HRF.out.moEq hm8 hq8).set hb2 (show 9 < 10 by omega) (.slice a8 n8 c8) { G2 kb with sl := .slice a8 n8 c8, ents := (G2 kb).ents ++ [(sa, kx)] } rfl (ent_of hown8 (G2 kb) ((G2 kb).ents ++ [(sa, kx)]) (by rw [List.length_append, HG.out, ← HLE.out]; simp) (by rw [flatE_app, List.nil_append, HG.out]; rfl))
          have hMO := (HM1.out.trans hm8).set (i := kb * 10 + 9) (.slice a8 n8 c8)
          clear hown8 hgrow8 hbel8 hown5 hgrow5 hbel5 hm8 hq8 hm5 hq5 hc8
          generalize w8.setCell ⟨B, kb * 10 + 9, none⟩ (.slice a8 n8 c8) = W3 at *
          have ht3 := HT3.out (.slice a8 n8 c8)
          obtain ⟨G3, hG3⟩ : ∃ G3, updG G2 kb { G2 kb with sl := .slice a8 n8 c8, ents := (G2 kb).ents ++ [(sa, kx)] } = G3 := ⟨_, rfl⟩
          rw [hG3] at hRF ht3
          clear hG3 c0 b9 s9
          have x1 := hRF.c1 kx hx2
          rw [(ht3.sok kx _ HX3.out).kind] at x1
          have x6 := hRF.c6 kx hx2
          rw [(ht3.sok kx _ HX3.out).holds] at x6
          dsimp only at x1 x6
          obtain ⟨hv, hhv⟩ : ∃ hv : Int, ((m.holds + 1 : Nat) : Int) = hv := ⟨_, rfl⟩
          have hv1 : 1 ≤ hv := by omega
          have hv2 : hv ≤ 1000001 := by omega
          rw [hhv] at x6
          have s6 := hRF.frozen (kx * 10 + 6)
          have c0 := hRF.cellT
          have HRF3 := Lib.hid hRF
          have HTI3 := Lib.hid ht3
          have HMO3 := Lib.hid hMO
          have HHV := Lib.hid hhv
          clear hRF ht3 hMO hhv
          first
          | rw [HKD.out] at x1
            have s7 := HRF3.out.frozen (kx * 10 + 7)
            have x7 := HRF3.out.c7 kx hx2
            go_wp2_with fail
            refine (HEND.out _ _ ((HRF3.out.set hx2 (show 7 < 10 by omega) (.int .i64 (kb : Int)) { G3 kx with parent := (kb : Int) } rfl (HRF3.out.ents kx hx2)).set hx2 (show 6 < 10 by omega) (.int .i64 (hv - 1)) { (updG G3 kx { G3 kx with parent := (kb : Int) }) kx with holds := hv - 1 } rfl ((HRF3.out.set hx2 (show 7 < 10 by omega) (.int .i64 (kb : Int)) { G3 kx with parent := (kb : Int) } rfl (HRF3.out.ents kx hx2)).ents kx hx2)) (by rw [← HFX.out]; exact HTI3.out.endD HX3.out HKD.out HHV.out kb) ((HMO3.out.set _).set _)).mono ?_
            rintro e w9 ⟨rfl, hs⟩
            have HS := Lib.hid hs
            clear hs
            go_wp2
            go_ret
            exact ⟨rfl, HS.out⟩
          | go_wp2_with fail
            refine (HEND.out _ _ (HRF3.out.set hx2 (show 6 < 10 by omega) (.int .i64 (hv - 1)) { G3 kx with holds := hv - 1 } rfl (HRF3.out.ents kx hx2)) (by rw [← HFX.out]; exact HTI3.out.endF HX3.out HHV.out) (HMO3.out.set _)).mono ?_
            rintro e w9 ⟨rfl, hs⟩
            have HS := Lib.hid hs
            clear hs
            go_wp2
            go_ret
            exact ⟨rfl, HS.out⟩
        refine AllReadyH.cons rfl (fun K hK => ?_) AllReadyH.nil
        simp only [List.getElem_toArray, List.getElem_cons_zero, List.getElem_cons_succ]
        go_simp
        refine hK.out _ _ ?_ (fun hHeld => ?_)
        · (try dsimp only); exact Sy.below ((Below.refl _ _).alloc (‹Mo B W2 _ ∧ _›).1.size _) hTL hBL ‹Mo B W2 _ ∧ _›
        clear hK K
        try simp only [List.getElem_toArray, List.getElem_cons_zero, List.getElem_cons_succ, Act.put, List.setIfInBounds_toArray, List.set_cons_zero, List.set_cons_succ]
        refine wpAnyH_ready (rs := [14]) (by kernel_rfl) (by simp) ?_
        refine AllReadyH.cons rfl (fun K hK => ?_) AllReadyH.nil
        refine step_app_row2 rfl (.tmp 217) (.tmp 225) 108 rfl W2.heap.size 126 i0 (.agg #[.string ⟨#[]⟩, .int .i64 0]) 24 Try.underlying108 hi0 hz0 hz1 hz2 rfl (.slice (some ⟨W2.heap.size, 0, none⟩) 0 0) 0 [] ?_ ?_ 0 (.slice a L cap) L (flatE E) ?_ ?_ ?_ ?_ ?_ ?_ ?_
        · simp [Act.eval, Act.put]; done
        · exact ((own_empty _ _ _ _ rfl (Nat.le_refl _)).below2 ((Below.refl _ _).alloc (Nat.le_refl _) _)).drew
        · simp [Act.eval, Act.put]; done
        · exact HSRC.out _ (‹Mo B W2 _ ∧ _›).1
        · exact fun u hu => flatE_one _ u hu
        · unfold maxLen; omega
        · omega
        · exact (‹Mo B W2 _ ∧ _›).1.size
        intro v5 w5 hown5 hgrow5 hbel5
        have hm5 : Mo B W2 w5 := (‹Mo B W2 _ ∧ _›).1.grow hbel5
        have hq5 : w5.heap[B]? = W2.heap[B]? := (hbel5.block B hBL).trans (Below.block ((((Below.refl W2.heap.size W2).drew).alloc (Nat.le_refl _) _).alloc (by simp) _) B hBL)
        refine hK.out _ _ ?_ (fun hHeld => ?_)
        · (try dsimp only); exact Sy.below hbel5 hTL hBL ‹Mo B W2 _ ∧ _›
        clear hK K
        try simp only [List.getElem_toArray, List.getElem_cons_zero, List.getElem_cons_succ, Act.put, List.setIfInBounds_toArray, List.set_cons_zero, List.set_cons_succ]
        refine wpAnyH_ready (rs := [19]) (by kernel_rfl) (by simp) ?_
        refine AllReadyH.cons rfl (fun K hK => ?_) AllReadyH.nil
        refine step_app_row2 rfl (.tmp 226) (.tmp 230) 108 rfl W2.heap.size 126 i0 (.agg #[.string ⟨#[]⟩, .int .i64 0]) 24 Try.underlying108 hi0 hz0 hz1 hz2 rfl v5 (0 + L) ([] ++ flatE E) ?_ ?_ 0 (.slice (some ⟨(W2.heap.size + 1), 0, none⟩) 1 1) 1 [.string sa, .int .i64 (kx : Int)] ?_ ?_ ?_ ?_ ?_ ?_ ?_
        · simp [Act.eval, Act.put]; done
        · exact hown5
        · simp [Act.eval, Act.put]; done
        · exact ((own_one _ _ _ _ _ (by simp)).drew.kept hgrow5 (.inr (by simp [Value.ownBlock])))
        · exact fun u hu => by (simp only [List.mem_cons, List.not_mem_nil, or_false] at hu; rcases hu with rfl | rfl <;> rfl)
        · unfold maxLen; omega
        · omega
        · exact (‹Mo B W2 _ ∧ _›).1.size
        intro v8 w8 hown8 hgrow8 hbel8
        have hq8 : w8.heap[B]? = W2.heap[B]? := (hbel8.block B hBL).trans hq5
        have hm8 : Mo B W2 w8 := (‹Mo B W2 _ ∧ _›).1.grow hbel8
        obtain ⟨a8, n8, c8, rfl⟩ := own_slice hown8
        have hc8 : w8.cell? ⟨B, kb * 10 + 9, none⟩ = some (.slice a L cap) := (cell_block hq8 _).trans C9.out
        refine hK.out _ _ ?_ (fun hHeld => ?_)
        · (try dsimp only); exact Sy.below hbel8 hTL hBL ‹Mo B W2 _ ∧ _›
        clear hK K
        try simp only [List.getElem_toArray, List.getElem_cons_zero, List.getElem_cons_succ, Act.put, List.setIfInBounds_toArray, List.set_cons_zero, List.set_cons_succ]
        refine wpAnyH_take (i := 20) (v := ?_) rfl (by kernel_rfl) (by kernel_rfl) (by kernel_rfl) (fun _ _ _ h => h) (Or.inl ⟨by rfl, ?_⟩) (by assumption) ?_
        rotate_left
        · (intro W hSw; (try dsimp only at hSw); go_simp; try with_reducible rfl)
        try simp only [List.getElem_toArray, List.getElem_cons_zero, List.getElem_cons_succ, Act.put, List.setIfInBounds_toArray, List.set_cons_zero, List.set_cons_succ]
        refine wpAnyH_take (i := 21) (v := ?_) rfl (by kernel_rfl) (by kernel_rfl) (by kernel_rfl) (fun _ _ _ h => h) (Or.inl ⟨by rfl, ?_⟩) (by assumption) ?_
        rotate_left
        · (intro W hSw; (try dsimp only at hSw); go_simp; try with_reducible rfl)
        try simp only [List.getElem_toArray, List.getElem_cons_zero, List.getElem_cons_succ, Act.put, List.setIfInBounds_toArray, List.set_cons_zero, List.set_cons_succ]
        refine wpAnyH_ready (rs := [22]) (by kernel_rfl) (by simp) ?_
        refine AllReadyH.cons rfl (fun K hK => ?_) AllReadyH.nil
        simp only [List.getElem_toArray, List.getElem_cons_zero, List.getElem_cons_succ]
        go_simp
        refine hK.out _ _ ?_ (fun hHeld => ?_)
        · (try dsimp only); exact Sy.set hTB ‹Mo B W2 _ ∧ _› _
        clear hK K
        try simp only [List.getElem_toArray, List.getElem_cons_zero, List.getElem_cons_succ, Act.put, List.setIfInBounds_toArray, List.set_cons_zero, List.set_cons_succ]
        refine wpAnyH_done (by kernel_rfl) ?_ _
        have hRF := (HRF.out.moEq hm8 hq8).set hb2 (show 9 < 10 by omega) (.slice a8 n8 c8) { G2 kb with sl := .slice a8 n8 c8, ents := (G2 kb).ents ++ [(sa, kx)] } rfl (ent_of hown8 (G2 kb) ((G2 kb).ents ++ [(sa, kx)]) (by rw [List.length_append, HG.out, ← HLE.out]; simp) (by rw [flatE_app, List.nil_append, HG.out]; rfl))
        have hMO := (HM1.out.trans hm8).set (i := kb * 10 + 9) (.slice a8 n8 c8)
        clear hown8 hgrow8 hbel8 hown5 hgrow5 hbel5 hm8 hq8 hm5 hq5 hc8
        generalize w8.setCell ⟨B, kb * 10 + 9, none⟩ (.slice a8 n8 c8) = W3 at *
        have ht3 := HT3.out (.slice a8 n8 c8)
        obtain ⟨G3, hG3⟩ : ∃ G3, updG G2 kb { G2 kb with sl := .slice a8 n8 c8, ents := (G2 kb).ents ++ [(sa, kx)] } = G3 := ⟨_, rfl⟩
        rw [hG3] at hRF ht3
        clear hG3 c0 b9 s9
        have x1 := hRF.c1 kx hx2
        rw [(ht3.sok kx _ HX3.out).kind] at x1
        have x6 := hRF.c6 kx hx2
        rw [(ht3.sok kx _ HX3.out).holds] at x6
        dsimp only at x1 x6
        obtain ⟨hv, hhv⟩ : ∃ hv : Int, ((m.holds + 1 : Nat) : Int) = hv := ⟨_, rfl⟩
        have hv1 : 1 ≤ hv := by omega
        have hv2 : hv ≤ 1000001 := by omega
        rw [hhv] at x6
        have s6 := hRF.frozen (kx * 10 + 6)
        have c0 := hRF.cellT
        have HRF3 := Lib.hid hRF
        have HTI3 := Lib.hid ht3
        have HMO3 := Lib.hid hMO
        have HHV := Lib.hid hhv
        clear hRF ht3 hMO hhv
        first
        | rw [HKD.out] at x1
          have s7 := HRF3.out.frozen (kx * 10 + 7)
          have x7 := HRF3.out.c7 kx hx2
          go_wp2_with fail
          refine (HEND.out _ _ ((HRF3.out.set hx2 (show 7 < 10 by omega) (.int .i64 (kb : Int)) { G3 kx with parent := (kb : Int) } rfl (HRF3.out.ents kx hx2)).set hx2 (show 6 < 10 by omega) (.int .i64 (hv - 1)) { (updG G3 kx { G3 kx with parent := (kb : Int) }) kx with holds := hv - 1 } rfl ((HRF3.out.set hx2 (show 7 < 10 by omega) (.int .i64 (kb : Int)) { G3 kx with parent := (kb : Int) } rfl (HRF3.out.ents kx hx2)).ents kx hx2)) (by rw [← HFX.out]; exact HTI3.out.endD HX3.out HKD.out HHV.out kb) ((HMO3.out.set _).set _)).mono ?_
          rintro e w9 ⟨rfl, hs⟩
          have HS := Lib.hid hs
          clear hs
          go_wp2
          go_ret
          exact ⟨rfl, HS.out⟩
        | go_wp2_with fail
          refine (HEND.out _ _ (HRF3.out.set hx2 (show 6 < 10 by omega) (.int .i64 (hv - 1)) { G3 kx with holds := hv - 1 } rfl (HRF3.out.ents kx hx2)) (by rw [← HFX.out]; exact HTI3.out.endF HX3.out HHV.out) (HMO3.out.set _)).mono ?_
          rintro e w9 ⟨rfl, hs⟩
          have HS := Lib.hid hs
          clear hs
          go_wp2
          go_ret
          exact ⟨rfl, HS.out⟩
      refine AllReadyH.cons rfl (fun K hK => ?_) AllReadyH.nil
      simp only [List.getElem_toArray, List.getElem_cons_zero, List.getElem_cons_succ]
      go_simp
      refine hK.out _ _ ?_ (fun hHeld => ?_)
      · (try dsimp only); exact Sy.below ((Below.refl _ _).alloc (‹Mo B W2 _ ∧ _›).1.size _) hTL hBL ‹Mo B W2 _ ∧ _›
      clear hK K
      try simp only [List.getElem_toArray, List.getElem_cons_zero, List.getElem_cons_succ, Act.put, List.setIfInBounds_toArray, List.set_cons_zero, List.set_cons_succ]
      refine wpAnyH_ready (rs := [13]) (by kernel_rfl) (by simp) ?_
      refine AllReadyH.cons rfl (fun K hK => ?_) AllReadyH.nil
      simp only [List.getElem_toArray, List.getElem_cons_zero, List.getElem_cons_succ]
      go_simp
      refine hK.out _ _ ?_ (fun hHeld => ?_)
      · (try dsimp only); assumption
      clear hK K
      try simp only [List.getElem_toArray, List.getElem_cons_zero, List.getElem_cons_succ, Act.put, List.setIfInBounds_toArray, List.set_cons_zero, List.set_cons_succ]
      refine wpAnyH_ready (rs := [14]) (by kernel_rfl) (by simp) ?_
      refine AllReadyH.cons rfl (fun K hK => ?_) AllReadyH.nil
      refine step_app_row2 rfl (.tmp 217) (.tmp 225) 108 rfl W2.heap.size 126 i0 (.agg #[.string ⟨#[]⟩, .int .i64 0]) 24 Try.underlying108 hi0 hz0 hz1 hz2 rfl (.slice (some ⟨W2.heap.size, 0, none⟩) 0 0) 0 [] ?_ ?_ 0 (.slice a L cap) L (flatE E) ?_ ?_ ?_ ?_ ?_ ?_ ?_
      · simp [Act.eval, Act.put]; done
      · exact ((own_empty _ _ _ _ rfl (Nat.le_refl _)).below2 ((Below.refl _ _).alloc (Nat.le_refl _) _)).drew
      · simp [Act.eval, Act.put]; done
      · exact HSRC.out _ (‹Mo B W2 _ ∧ _›).1
      · exact fun u hu => flatE_one _ u hu
      · unfold maxLen; omega
      · omega
      · exact (‹Mo B W2 _ ∧ _›).1.size
      intro v5 w5 hown5 hgrow5 hbel5
      have hm5 : Mo B W2 w5 := (‹Mo B W2 _ ∧ _›).1.grow hbel5
      have hq5 : w5.heap[B]? = W2.heap[B]? := (hbel5.block B hBL).trans (Below.block ((((Below.refl W2.heap.size W2).drew).alloc (Nat.le_refl _) _).alloc (by simp) _) B hBL)
      refine hK.out _ _ ?_ (fun hHeld => ?_)
      · (try dsimp only); exact Sy.below hbel5 hTL hBL ‹Mo B W2 _ ∧ _›
      clear hK K
      try simp only [List.getElem_toArray, List.getElem_cons_zero, List.getElem_cons_succ, Act.put, List.setIfInBounds_toArray, List.set_cons_zero, List.set_cons_succ]
      refine wpAnyH_ready (rs := [19]) (by kernel_rfl) (by simp) ?_
      refine AllReadyH.cons rfl (fun K hK => ?_) AllReadyH.nil
      refine step_app_row2 rfl (.tmp 226) (.tmp 230) 108 rfl W2.heap.size 126 i0 (.agg #[.string ⟨#[]⟩, .int .i64 0]) 24 Try.underlying108 hi0 hz0 hz1 hz2 rfl v5 (0 + L) ([] ++ flatE E) ?_ ?_ 0 (.slice (some ⟨(W2.heap.size + 1), 0, none⟩) 1 1) 1 [.string sa, .int .i64 (kx : Int)] ?_ ?_ ?_ ?_ ?_ ?_ ?_
      · simp [Act.eval, Act.put]; done
      · exact hown5
      · simp [Act.eval, Act.put]; done
      · exact ((own_one _ _ _ _ _ (by simp)).drew.kept hgrow5 (.inr (by simp [Value.ownBlock])))
      · exact fun u hu => by (simp only [List.mem_cons, List.not_mem_nil, or_false] at hu; rcases hu with rfl | rfl <;> rfl)
      · unfold maxLen; omega
      · omega
      · exact (‹Mo B W2 _ ∧ _›).1.size
      intro v8 w8 hown8 hgrow8 hbel8
      have hq8 : w8.heap[B]? = W2.heap[B]? := (hbel8.block B hBL).trans hq5
      have hm8 : Mo B W2 w8 := (‹Mo B W2 _ ∧ _›).1.grow hbel8
      obtain ⟨a8, n8, c8, rfl⟩ := own_slice hown8
      have hc8 : w8.cell? ⟨B, kb * 10 + 9, none⟩ = some (.slice a L cap) := (cell_block hq8 _).trans C9.out
      refine hK.out _ _ ?_ (fun hHeld => ?_)
      · (try dsimp only); exact Sy.below hbel8 hTL hBL ‹Mo B W2 _ ∧ _›
      clear hK K
      try simp only [List.getElem_toArray, List.getElem_cons_zero, List.getElem_cons_succ, Act.put, List.setIfInBounds_toArray, List.set_cons_zero, List.set_cons_succ]
      refine wpAnyH_take (i := 20) (v := ?_) rfl (by kernel_rfl) (by kernel_rfl) (by kernel_rfl) (fun _ _ _ h => h) (Or.inl ⟨by rfl, ?_⟩) (by assumption) ?_
      rotate_left
      · (intro W hSw; (try dsimp only at hSw); go_simp; try with_reducible rfl)
      try simp only [List.getElem_toArray, List.getElem_cons_zero, List.getElem_cons_succ, Act.put, List.setIfInBounds_toArray, List.set_cons_zero, List.set_cons_succ]
      refine wpAnyH_take (i := 21) (v := ?_) rfl (by kernel_rfl) (by kernel_rfl) (by kernel_rfl) (fun _ _ _ h => h) (Or.inl ⟨by rfl, ?_⟩) (by assumption) ?_
      rotate_left
      · (intro W hSw; (try dsimp only at hSw); go_simp; try with_reducible rfl)
      try simp only [List.getElem_toArray, List.getElem_cons_zero, List.getElem_cons_succ, Act.put, List.setIfInBounds_toArray, List.set_cons_zero, List.set_cons_succ]
      refine wpAnyH_ready (rs := [22]) (by kernel_rfl) (by simp) ?_
      refine AllReadyH.cons rfl (fun K hK => ?_) AllReadyH.nil
      simp only [List.getElem_toArray, List.getElem_cons_zero, List.getElem_cons_succ]
      go_simp
      refine hK.out _ _ ?_ (fun hHeld => ?_)
      · (try dsimp only); exact Sy.set hTB ‹Mo B W2 _ ∧ _› _
      clear hK K
      try simp only [List.getElem_toArray, List.getElem_cons_zero, List.getElem_cons_succ, Act.put, List.setIfInBounds_toArray, List.set_cons_zero, List.set_cons_succ]
      refine wpAnyH_done (by kernel_rfl) ?_ _
      have hRF := (HRF.out.moEq hm8 hq8).set hb2 (show 9 < 10 by omega) (.slice a8 n8 c8) { G2 kb with sl := .slice a8 n8 c8, ents := (G2 kb).ents ++ [(sa, kx)] } rfl (ent_of hown8 (G2 kb) ((G2 kb).ents ++ [(sa, kx)]) (by rw [List.length_append, HG.out, ← HLE.out]; simp) (by rw [flatE_app, List.nil_append, HG.out]; rfl))
      have hMO := (HM1.out.trans hm8).set (i := kb * 10 + 9) (.slice a8 n8 c8)
      clear hown8 hgrow8 hbel8 hown5 hgrow5 hbel5 hm8 hq8 hm5 hq5 hc8
      generalize w8.setCell ⟨B, kb * 10 + 9, none⟩ (.slice a8 n8 c8) = W3 at *
      have ht3 := HT3.out (.slice a8 n8 c8)
      obtain ⟨G3, hG3⟩ : ∃ G3, updG G2 kb { G2 kb with sl := .slice a8 n8 c8, ents := (G2 kb).ents ++ [(sa, kx)] } = G3 := ⟨_, rfl⟩
      rw [hG3] at hRF ht3
      clear hG3 c0 b9 s9
      have x1 := hRF.c1 kx hx2
      rw [(ht3.sok kx _ HX3.out).kind] at x1
      have x6 := hRF.c6 kx hx2
      rw [(ht3.sok kx _ HX3.out).holds] at x6
      dsimp only at x1 x6
      obtain ⟨hv, hhv⟩ : ∃ hv : Int, ((m.holds + 1 : Nat) : Int) = hv := ⟨_, rfl⟩
      have hv1 : 1 ≤ hv := by omega
      have hv2 : hv ≤ 1000001 := by omega
      rw [hhv] at x6
      have s6 := hRF.frozen (kx * 10 + 6)
      have c0 := hRF.cellT
      have HRF3 := Lib.hid hRF
      have HTI3 := Lib.hid ht3
      have HMO3 := Lib.hid hMO
      have HHV := Lib.hid hhv
      clear hRF ht3 hMO hhv
      first
      | rw [HKD.out] at x1
        have s7 := HRF3.out.frozen (kx * 10 + 7)
        have x7 := HRF3.out.c7 kx hx2
        go_wp2_with fail
        refine (HEND.out _ _ ((HRF3.out.set hx2 (show 7 < 10 by omega) (.int .i64 (kb : Int)) { G3 kx with parent := (kb : Int) } rfl (HRF3.out.ents kx hx2)).set hx2 (show 6 < 10 by omega) (.int .i64 (hv - 1)) { (updG G3 kx { G3 kx with parent := (kb : Int) }) kx with holds := hv - 1 } rfl ((HRF3.out.set hx2 (show 7 < 10 by omega) (.int .i64 (kb : Int)) { G3 kx with parent := (kb : Int) } rfl (HRF3.out.ents kx hx2)).ents kx hx2)) (by rw [← HFX.out]; exact HTI3.out.endD HX3.out HKD.out HHV.out kb) ((HMO3.out.set _).set _)).mono ?_
        rintro e w9 ⟨rfl, hs⟩
        have HS := Lib.hid hs
        clear hs
        go_wp2
        go_ret
        exact ⟨rfl, HS.out⟩
      | go_wp2_with fail
        refine (HEND.out _ _ (HRF3.out.set hx2 (show 6 < 10 by omega) (.int .i64 (hv - 1)) { G3 kx with holds := hv - 1 } rfl (HRF3.out.ents kx hx2)) (by rw [← HFX.out]; exact HTI3.out.endF HX3.out HHV.out) (HMO3.out.set _)).mono ?_
        rintro e w9 ⟨rfl, hs⟩
        have HS := Lib.hid hs
        clear hs
        go_wp2
        go_ret
        exact ⟨rfl, HS.out⟩
    refine AllReadyH.cons rfl (fun K hK => ?_) ?_
    · simp only [List.getElem_toArray, List.getElem_cons_zero, List.getElem_cons_succ]
      go_simp
      refine hK.out _ _ ?_ (fun hHeld => ?_)
      · (try dsimp only); assumption
      clear hK K
      try simp only [List.getElem_toArray, List.getElem_cons_zero, List.getElem_cons_succ, Act.put, List.setIfInBounds_toArray, List.set_cons_zero, List.set_cons_succ]
      refine wpAnyH_ready (rs := [5, 18]) (by kernel_rfl) (by simp) ?_
      refine AllReadyH.cons rfl (fun K hK => ?_) ?_
      · simp only [List.getElem_toArray, List.getElem_cons_zero, List.getElem_cons_succ]
        go_simp
        refine hK.out _ _ ?_ (fun hHeld => ?_)
        · (try dsimp only); exact Sy.below ((Below.refl _ _).alloc (‹Mo B W2 _ ∧ _›).1.size _) hTL hBL ‹Mo B W2 _ ∧ _›
        clear hK K
        try simp only [List.getElem_toArray, List.getElem_cons_zero, List.getElem_cons_succ, Act.put, List.setIfInBounds_toArray, List.set_cons_zero, List.set_cons_succ]
        refine wpAnyH_ready (rs := [14, 18]) (by kernel_rfl) (by simp) ?_
        refine AllReadyH.cons rfl (fun K hK => ?_) ?_
        · refine step_app_row2 rfl (.tmp 217) (.tmp 225) 108 rfl W2.heap.size 126 i0 (.agg #[.string ⟨#[]⟩, .int .i64 0]) 24 Try.underlying108 hi0 hz0 hz1 hz2 rfl (.slice (some ⟨W2.heap.size, 0, none⟩) 0 0) 0 [] ?_ ?_ 0 (.slice a L cap) L (flatE E) ?_ ?_ ?_ ?_ ?_ ?_ ?_
          · simp [Act.eval, Act.put]; done
          · exact (own_empty _ _ _ _ rfl (Nat.le_refl _)).drew
          · simp [Act.eval, Act.put]; done
          · exact HSRC.out _ (‹Mo B W2 _ ∧ _›).1
          · exact fun u hu => flatE_one _ u hu
          · unfold maxLen; omega
          · omega
          · exact (‹Mo B W2 _ ∧ _›).1.size
          intro v5 w5 hown5 hgrow5 hbel5
          have hm5 : Mo B W2 w5 := (‹Mo B W2 _ ∧ _›).1.grow hbel5
          have hq5 : w5.heap[B]? = W2.heap[B]? := (hbel5.block B hBL).trans (Below.block (((Below.refl W2.heap.size W2).drew).alloc (Nat.le_refl _) _) B hBL)
          refine hK.out _ _ ?_ (fun hHeld => ?_)
          · (try dsimp only); exact Sy.below hbel5 hTL hBL ‹Mo B W2 _ ∧ _›
          clear hK K
          try simp only [List.getElem_toArray, List.getElem_cons_zero, List.getElem_cons_succ, Act.put, List.setIfInBounds_toArray, List.set_cons_zero, List.set_cons_succ]
          refine wpAnyH_ready (rs := [18]) (by kernel_rfl) (by simp) ?_
          refine AllReadyH.cons rfl (fun K hK => ?_) AllReadyH.nil
          simp only [List.getElem_toArray, List.getElem_cons_zero, List.getElem_cons_succ]
          go_simp
          refine hK.out _ _ ?_ (fun hHeld => ?_)
          · (try dsimp only); exact Sy.below ((Below.refl _ _).alloc (‹Mo B W2 _ ∧ _›).1.size _) hTL hBL ‹Mo B W2 _ ∧ _›
          clear hK K
          try simp only [List.getElem_toArray, List.getElem_cons_zero, List.getElem_cons_succ, Act.put, List.setIfInBounds_toArray, List.set_cons_zero, List.set_cons_succ]
          refine wpAnyH_ready (rs := [19]) (by kernel_rfl) (by simp) ?_
          refine AllReadyH.cons rfl (fun K hK => ?_) AllReadyH.nil
          refine step_app_row2 rfl (.tmp 226) (.tmp 230) 108 rfl W2.heap.size 126 i0 (.agg #[.string ⟨#[]⟩, .int .i64 0]) 24 Try.underlying108 hi0 hz0 hz1 hz2 rfl v5 (0 + L) ([] ++ flatE E) ?_ ?_ 0 (.slice (some ⟨w5.heap.size, 0, none⟩) 1 1) 1 [.string sa, .int .i64 (kx : Int)] ?_ ?_ ?_ ?_ ?_ ?_ ?_
          · simp [Act.eval, Act.put]; done
          · exact hown5.below2 ((Below.refl _ _).alloc (Nat.le_refl _) _)
          · simp [Act.eval, Act.put]; done
          · exact own_one _ _ _ _ _ rfl
          · exact fun u hu => by (simp only [List.mem_cons, List.not_mem_nil, or_false] at hu; rcases hu with rfl | rfl <;> rfl)
          · unfold maxLen; omega
          · omega
          · exact (‹Mo B W2 _ ∧ _›).1.size
          intro v8 w8 hown8 hgrow8 hbel8
          have hq8 : w8.heap[B]? = W2.heap[B]? := (hbel8.block B hBL).trans ((Below.block ((Below.refl _ w5).alloc (Nat.le_refl _) _) B (by have := hm5.size; omega)).trans hq5)
          have hm8 : Mo B W2 w8 := (‹Mo B W2 _ ∧ _›).1.grow hbel8
          obtain ⟨a8, n8, c8, rfl⟩ := own_slice hown8
          have hc8 : w8.cell? ⟨B, kb * 10 + 9, none⟩ = some (.slice a L cap) := (cell_block hq8 _).trans C9.out
          refine hK.out _ _ ?_ (fun hHeld => ?_)
          · (try dsimp only); exact Sy.below hbel8 hTL hBL ‹Mo B W2 _ ∧ _›
          clear hK K
          try simp only [List.getElem_toArray, List.getElem_cons_zero, List.getElem_cons_succ, Act.put, List.setIfInBounds_toArray, List.set_cons_zero, List.set_cons_succ]
          refine wpAnyH_take (i := 20) (v := ?_) rfl (by kernel_rfl) (by kernel_rfl) (by kernel_rfl) (fun _ _ _ h => h) (Or.inl ⟨by rfl, ?_⟩) (by assumption) ?_
          rotate_left
          · (intro W hSw; (try dsimp only at hSw); go_simp; try with_reducible rfl)
          try simp only [List.getElem_toArray, List.getElem_cons_zero, List.getElem_cons_succ, Act.put, List.setIfInBounds_toArray, List.set_cons_zero, List.set_cons_succ]
          refine wpAnyH_take (i := 21) (v := ?_) rfl (by kernel_rfl) (by kernel_rfl) (by kernel_rfl) (fun _ _ _ h => h) (Or.inl ⟨by rfl, ?_⟩) (by assumption) ?_
          rotate_left
          · (intro W hSw; (try dsimp only at hSw); go_simp; try with_reducible rfl)
          try simp only [List.getElem_toArray, List.getElem_cons_zero, List.getElem_cons_succ, Act.put, List.setIfInBounds_toArray, List.set_cons_zero, List.set_cons_succ]
          refine wpAnyH_ready (rs := [22]) (by kernel_rfl) (by simp) ?_
          refine AllReadyH.cons rfl (fun K hK => ?_) AllReadyH.nil
          simp only [List.getElem_toArray, List.getElem_cons_zero, List.getElem_cons_succ]
          go_simp
          refine hK.out _ _ ?_ (fun hHeld => ?_)
          · (try dsimp only); exact Sy.set hTB ‹Mo B W2 _ ∧ _› _
          clear hK K
          try simp only [List.getElem_toArray, List.getElem_cons_zero, List.getElem_cons_succ, Act.put, List.setIfInBounds_toArray, List.set_cons_zero, List.set_cons_succ]
          refine wpAnyH_done (by kernel_rfl) ?_ _
          have hRF := (HRF.out.moEq hm8 hq8).set hb2 (show 9 < 10 by omega) (.slice a8 n8 c8) { G2 kb with sl := .slice a8 n8 c8, ents := (G2 kb).ents ++ [(sa, kx)] } rfl (ent_of hown8 (G2 kb) ((G2 kb).ents ++ [(sa, kx)]) (by rw [List.length_append, HG.out, ← HLE.out]; simp) (by rw [flatE_app, List.nil_append, HG.out]; rfl))
          have hMO := (HM1.out.trans hm8).set (i := kb * 10 + 9) (.slice a8 n8 c8)
          clear hown8 hgrow8 hbel8 hown5 hgrow5 hbel5 hm8 hq8 hm5 hq5 hc8
          generalize w8.setCell ⟨B, kb * 10 + 9, none⟩ (.slice a8 n8 c8) = W3 at *
          have ht3 := HT3.out (.slice a8 n8 c8)
          obtain ⟨G3, hG3⟩ : ∃ G3, updG G2 kb { G2 kb with sl := .slice a8 n8 c8, ents := (G2 kb).ents ++ [(sa, kx)] } = G3 := ⟨_, rfl⟩
          rw [hG3] at hRF ht3
          clear hG3 c0 b9 s9
          have x1 := hRF.c1 kx hx2
          rw [(ht3.sok kx _ HX3.out).kind] at x1
          have x6 := hRF.c6 kx hx2
          rw [(ht3.sok kx _ HX3.out).holds] at x6
          dsimp only at x1 x6
          obtain ⟨hv, hhv⟩ : ∃ hv : Int, ((m.holds + 1 : Nat) : Int) = hv := ⟨_, rfl⟩
          have hv1 : 1 ≤ hv := by omega
          have hv2 : hv ≤ 1000001 := by omega
          rw [hhv] at x6
          have s6 := hRF.frozen (kx * 10 + 6)
          have c0 := hRF.cellT
          have HRF3 := Lib.hid hRF
          have HTI3 := Lib.hid ht3
          have HMO3 := Lib.hid hMO
          have HHV := Lib.hid hhv
          clear hRF ht3 hMO hhv
          first
          | rw [HKD.out] at x1
            have s7 := HRF3.out.frozen (kx * 10 + 7)
            have x7 := HRF3.out.c7 kx hx2
            go_wp2_with fail
            refine (HEND.out _ _ ((HRF3.out.set hx2 (show 7 < 10 by omega) (.int .i64 (kb : Int)) { G3 kx with parent := (kb : Int) } rfl (HRF3.out.ents kx hx2)).set hx2 (show 6 < 10 by omega) (.int .i64 (hv - 1)) { (updG G3 kx { G3 kx with parent := (kb : Int) }) kx with holds := hv - 1 } rfl ((HRF3.out.set hx2 (show 7 < 10 by omega) (.int .i64 (kb : Int)) { G3 kx with parent := (kb : Int) } rfl (HRF3.out.ents kx hx2)).ents kx hx2)) (by rw [← HFX.out]; exact HTI3.out.endD HX3.out HKD.out HHV.out kb) ((HMO3.out.set _).set _)).mono ?_
            rintro e w9 ⟨rfl, hs⟩
            have HS := Lib.hid hs
            clear hs
            go_wp2
            go_ret
            exact ⟨rfl, HS.out⟩
          | go_wp2_with fail
            refine (HEND.out _ _ (HRF3.out.set hx2 (show 6 < 10 by omega) (.int .i64 (hv - 1)) { G3 kx with holds := hv - 1 } rfl (HRF3.out.ents kx hx2)) (by rw [← HFX.out]; exact HTI3.out.endF HX3.out HHV.out) (HMO3.out.set _)).mono ?_
            rintro e w9 ⟨rfl, hs⟩
            have HS := Lib.hid hs
            clear hs
            go_wp2
            go_ret
            exact ⟨rfl, HS.out⟩
        refine AllReadyH.cons rfl (fun K hK => ?_) AllReadyH.nil
        simp only [List.getElem_toArray, List.getElem_cons_zero, List.getElem_cons_succ]
        go_simp
        refine hK.out _ _ ?_ (fun hHeld => ?_)
        · (try dsimp only); exact Sy.below ((Below.refl _ _).alloc (‹Mo B W2 _ ∧ _›).1.size _) hTL hBL ‹Mo B W2 _ ∧ _›
        clear hK K
        try simp only [List.getElem_toArray, List.getElem_cons_zero, List.getElem_cons_succ, Act.put, List.setIfInBounds_toArray, List.set_cons_zero, List.set_cons_succ]
        refine wpAnyH_ready (rs := [14]) (by kernel_rfl) (by simp) ?_
        refine AllReadyH.cons rfl (fun K hK => ?_) AllReadyH.nil
        refine step_app_row2 rfl (.tmp 217) (.tmp 225) 108 rfl W2.heap.size 126 i0 (.agg #[.string ⟨#[]⟩, .int .i64 0]) 24 Try.underlying108 hi0 hz0 hz1 hz2 rfl (.slice (some ⟨W2.heap.size, 0, none⟩) 0 0) 0 [] ?_ ?_ 0 (.slice a L cap) L (flatE E) ?_ ?_ ?_ ?_ ?_ ?_ ?_
        · simp [Act.eval, Act.put]; done
        · exact ((own_empty _ _ _ _ rfl (Nat.le_refl _)).below2 ((Below.refl _ _).alloc (Nat.le_refl _) _)).drew
        · simp [Act.eval, Act.put]; done
        · exact HSRC.out _ (‹Mo B W2 _ ∧ _›).1
        · exact fun u hu => flatE_one _ u hu
        · unfold maxLen; omega
        · omega
        · exact (‹Mo B W2 _ ∧ _›).1.size
        intro v5 w5 hown5 hgrow5 hbel5
        have hm5 : Mo B W2 w5 := (‹Mo B W2 _ ∧ _›).1.grow hbel5
        have hq5 : w5.heap[B]? = W2.heap[B]? := (hbel5.block B hBL).trans (Below.block ((((Below.refl W2.heap.size W2).drew).alloc (Nat.le_refl _) _).alloc (by simp) _) B hBL)
        refine hK.out _ _ ?_ (fun hHeld => ?_)
        · (try dsimp only); exact Sy.below hbel5 hTL hBL ‹Mo B W2 _ ∧ _›
        clear hK K
        try simp only [List.getElem_toArray, List.getElem_cons_zero, List.getElem_cons_succ, Act.put, List.setIfInBounds_toArray, List.set_cons_zero, List.set_cons_succ]
        refine wpAnyH_ready (rs := [19]) (by kernel_rfl) (by simp) ?_
        refine AllReadyH.cons rfl (fun K hK => ?_) AllReadyH.nil
        refine step_app_row2 rfl (.tmp 226) (.tmp 230) 108 rfl W2.heap.size 126 i0 (.agg #[.string ⟨#[]⟩, .int .i64 0]) 24 Try.underlying108 hi0 hz0 hz1 hz2 rfl v5 (0 + L) ([] ++ flatE E) ?_ ?_ 0 (.slice (some ⟨(W2.heap.size + 1), 0, none⟩) 1 1) 1 [.string sa, .int .i64 (kx : Int)] ?_ ?_ ?_ ?_ ?_ ?_ ?_
        · simp [Act.eval, Act.put]; done
        · exact hown5
        · simp [Act.eval, Act.put]; done
        · exact ((own_one _ _ _ _ _ (by simp)).drew.kept hgrow5 (.inr (by simp [Value.ownBlock])))
        · exact fun u hu => by (simp only [List.mem_cons, List.not_mem_nil, or_false] at hu; rcases hu with rfl | rfl <;> rfl)
        · unfold maxLen; omega
        · omega
        · exact (‹Mo B W2 _ ∧ _›).1.size
        intro v8 w8 hown8 hgrow8 hbel8
        have hq8 : w8.heap[B]? = W2.heap[B]? := (hbel8.block B hBL).trans hq5
        have hm8 : Mo B W2 w8 := (‹Mo B W2 _ ∧ _›).1.grow hbel8
        obtain ⟨a8, n8, c8, rfl⟩ := own_slice hown8
        have hc8 : w8.cell? ⟨B, kb * 10 + 9, none⟩ = some (.slice a L cap) := (cell_block hq8 _).trans C9.out
        refine hK.out _ _ ?_ (fun hHeld => ?_)
        · (try dsimp only); exact Sy.below hbel8 hTL hBL ‹Mo B W2 _ ∧ _›
        clear hK K
        try simp only [List.getElem_toArray, List.getElem_cons_zero, List.getElem_cons_succ, Act.put, List.setIfInBounds_toArray, List.set_cons_zero, List.set_cons_succ]
        refine wpAnyH_take (i := 20) (v := ?_) rfl (by kernel_rfl) (by kernel_rfl) (by kernel_rfl) (fun _ _ _ h => h) (Or.inl ⟨by rfl, ?_⟩) (by assumption) ?_
        rotate_left
        · (intro W hSw; (try dsimp only at hSw); go_simp; try with_reducible rfl)
        try simp only [List.getElem_toArray, List.getElem_cons_zero, List.getElem_cons_succ, Act.put, List.setIfInBounds_toArray, List.set_cons_zero, List.set_cons_succ]
        refine wpAnyH_take (i := 21) (v := ?_) rfl (by kernel_rfl) (by kernel_rfl) (by kernel_rfl) (fun _ _ _ h => h) (Or.inl ⟨by rfl, ?_⟩) (by assumption) ?_
        rotate_left
        · (intro W hSw; (try dsimp only at hSw); go_simp; try with_reducible rfl)
        try simp only [List.getElem_toArray, List.getElem_cons_zero, List.getElem_cons_succ, Act.put, List.setIfInBounds_toArray, List.set_cons_zero, List.set_cons_succ]
        refine wpAnyH_ready (rs := [22]) (by kernel_rfl) (by simp) ?_
        refine AllReadyH.cons rfl (fun K hK => ?_) AllReadyH.nil
        simp only [List.getElem_toArray, List.getElem_cons_zero, List.getElem_cons_succ]
        go_simp
        refine hK.out _ _ ?_ (fun hHeld => ?_)
        · (try dsimp only); exact Sy.set hTB ‹Mo B W2 _ ∧ _› _
        clear hK K
        try simp only [List.getElem_toArray, List.getElem_cons_zero, List.getElem_cons_succ, Act.put, List.setIfInBounds_toArray, List.set_cons_zero, List.set_cons_succ]
        refine wpAnyH_done (by kernel_rfl) ?_ _
        have hRF := (HRF.out.moEq hm8 hq8).set hb2 (show 9 < 10 by omega) (.slice a8 n8 c8) { G2 kb with sl := .slice a8 n8 c8, ents := (G2 kb).ents ++ [(sa, kx)] } rfl (ent_of hown8 (G2 kb) ((G2 kb).ents ++ [(sa, kx)]) (by rw [List.length_append, HG.out, ← HLE.out]; simp) (by rw [flatE_app, List.nil_append, HG.out]; rfl))
        have hMO := (HM1.out.trans hm8).set (i := kb * 10 + 9) (.slice a8 n8 c8)
        clear hown8 hgrow8 hbel8 hown5 hgrow5 hbel5 hm8 hq8 hm5 hq5 hc8
        generalize w8.setCell ⟨B, kb * 10 + 9, none⟩ (.slice a8 n8 c8) = W3 at *
        have ht3 := HT3.out (.slice a8 n8 c8)
        obtain ⟨G3, hG3⟩ : ∃ G3, updG G2 kb { G2 kb with sl := .slice a8 n8 c8, ents := (G2 kb).ents ++ [(sa, kx)] } = G3 := ⟨_, rfl⟩
        rw [hG3] at hRF ht3
        clear hG3 c0 b9 s9
        have x1 := hRF.c1 kx hx2
        rw [(ht3.sok kx _ HX3.out).kind] at x1
        have x6 := hRF.c6 kx hx2
        rw [(ht3.sok kx _ HX3.out).holds] at x6
        dsimp only at x1 x6
        obtain ⟨hv, hhv⟩ : ∃ hv : Int, ((m.holds + 1 : Nat) : Int) = hv := ⟨_, rfl⟩
        have hv1 : 1 ≤ hv := by omega
        have hv2 : hv ≤ 1000001 := by omega
        rw [hhv] at x6
        have s6 := hRF.frozen (kx * 10 + 6)
        have c0 := hRF.cellT
        have HRF3 := Lib.hid hRF
        have HTI3 := Lib.hid ht3
        have HMO3 := Lib.hid hMO
        have HHV := Lib.hid hhv
        clear hRF ht3 hMO hhv
        first
        | rw [HKD.out] at x1
          have s7 := HRF3.out.frozen (kx * 10 + 7)
          have x7 := HRF3.out.c7 kx hx2
          go_wp2_with fail
          refine (HEND.out _ _ ((HRF3.out.set hx2 (show 7 < 10 by omega) (.int .i64 (kb : Int)) { G3 kx with parent := (kb : Int) } rfl (HRF3.out.ents kx hx2)).set hx2 (show 6 < 10 by omega) (.int .i64 (hv - 1)) { (updG G3 kx { G3 kx with parent := (kb : Int) }) kx with holds := hv - 1 } rfl ((HRF3.out.set hx2 (show 7 < 10 by omega) (.int .i64 (kb : Int)) { G3 kx with parent := (kb : Int) } rfl (HRF3.out.ents kx hx2)).ents kx hx2)) (by rw [← HFX.out]; exact HTI3.out.endD HX3.out HKD.out HHV.out kb) ((HMO3.out.set _).set _)).mono ?_
          rintro e w9 ⟨rfl, hs⟩
          have HS := Lib.hid hs
          clear hs
          go_wp2
          go_ret
          exact ⟨rfl, HS.out⟩
        | go_wp2_with fail
          refine (HEND.out _ _ (HRF3.out.set hx2 (show 6 < 10 by omega) (.int .i64 (hv - 1)) { G3 kx with holds := hv - 1 } rfl (HRF3.out.ents kx hx2)) (by rw [← HFX.out]; exact HTI3.out.endF HX3.out HHV.out) (HMO3.out.set _)).mono ?_
          rintro e w9 ⟨rfl, hs⟩
          have HS := Lib.hid hs
          clear hs
          go_wp2
          go_ret
          exact ⟨rfl, HS.out⟩
      refine AllReadyH.cons rfl (fun K hK => ?_) AllReadyH.nil
      simp only [List.getElem_toArray, List.getElem_cons_zero, List.getElem_cons_succ]
      go_simp
      refine hK.out _ _ ?_ (fun hHeld => ?_)
      · (try dsimp only); exact Sy.below ((Below.refl _ _).alloc (‹Mo B W2 _ ∧ _›).1.size _) hTL hBL ‹Mo B W2 _ ∧ _›
      clear hK K
      try simp only [List.getElem_toArray, List.getElem_cons_zero, List.getElem_cons_succ, Act.put, List.setIfInBounds_toArray, List.set_cons_zero, List.set_cons_succ]
      refine wpAnyH_ready (rs := [5]) (by kernel_rfl) (by simp) ?_
      refine AllReadyH.cons rfl (fun K hK => ?_) AllReadyH.nil
      simp only [List.getElem_toArray, List.getElem_cons_zero, List.getElem_cons_succ]
      go_simp
      refine hK.out _ _ ?_ (fun hHeld => ?_)
      · (try dsimp only); exact Sy.below ((Below.refl _ _).alloc (‹Mo B W2 _ ∧ _›).1.size _) hTL hBL ‹Mo B W2 _ ∧ _›
      clear hK K
      try simp only [List.getElem_toArray, List.getElem_cons_zero, List.getElem_cons_succ, Act.put, List.setIfInBounds_toArray, List.set_cons_zero, List.set_cons_succ]
      refine wpAnyH_ready (rs := [14]) (by kernel_rfl) (by simp) ?_
      refine AllReadyH.cons rfl (fun K hK => ?_) AllReadyH.nil
      refine step_app_row2 rfl (.tmp 217) (.tmp 225) 108 rfl W2.heap.size 126 i0 (.agg #[.string ⟨#[]⟩, .int .i64 0]) 24 Try.underlying108 hi0 hz0 hz1 hz2 rfl (.slice (some ⟨(W2.heap.size + 1), 0, none⟩) 0 0) 0 [] ?_ ?_ 0 (.slice a L cap) L (flatE E) ?_ ?_ ?_ ?_ ?_ ?_ ?_
      · simp [Act.eval, Act.put]; done
      · exact (own_empty _ _ _ _ (by simp) (by simp)).drew
      · simp [Act.eval, Act.put]; done
      · exact HSRC.out _ (‹Mo B W2 _ ∧ _›).1
      · exact fun u hu => flatE_one _ u hu
      · unfold maxLen; omega
      · omega
      · exact (‹Mo B W2 _ ∧ _›).1.size
      intro v5 w5 hown5 hgrow5 hbel5
      have hm5 : Mo B W2 w5 := (‹Mo B W2 _ ∧ _›).1.grow hbel5
      have hq5 : w5.heap[B]? = W2.heap[B]? := (hbel5.block B hBL).trans (Below.block ((((Below.refl W2.heap.size W2).drew).alloc (Nat.le_refl _) _).alloc (by simp) _) B hBL)
      refine hK.out _ _ ?_ (fun hHeld => ?_)
      · (try dsimp only); exact Sy.below hbel5 hTL hBL ‹Mo B W2 _ ∧ _›
      clear hK K
      try simp only [List.getElem_toArray, List.getElem_cons_zero, List.getElem_cons_succ, Act.put, List.setIfInBounds_toArray, List.set_cons_zero, List.set_cons_succ]
      refine wpAnyH_ready (rs := [19]) (by kernel_rfl) (by simp) ?_
      refine AllReadyH.cons rfl (fun K hK => ?_) AllReadyH.nil
      refine step_app_row2 rfl (.tmp 226) (.tmp 230) 108 rfl W2.heap.size 126 i0 (.agg #[.string ⟨#[]⟩, .int .i64 0]) 24 Try.underlying108 hi0 hz0 hz1 hz2 rfl v5 (0 + L) ([] ++ flatE E) ?_ ?_ 0 (.slice (some ⟨W2.heap.size, 0, none⟩) 1 1) 1 [.string sa, .int .i64 (kx : Int)] ?_ ?_ ?_ ?_ ?_ ?_ ?_
      · simp [Act.eval, Act.put]; done
      · exact hown5
      · simp [Act.eval, Act.put]; done
      · exact (((own_one _ _ _ _ _ rfl).below2 ((Below.refl _ _).alloc (Nat.le_refl _) _)).drew.kept hgrow5 (.inr (by simp [Value.ownBlock])))
      · exact fun u hu => by (simp only [List.mem_cons, List.not_mem_nil, or_false] at hu; rcases hu with rfl | rfl <;> rfl)
      · unfold maxLen; omega
      · omega
      · exact (‹Mo B W2 _ ∧ _›).1.size
      intro v8 w8 hown8 hgrow8 hbel8
      have hq8 : w8.heap[B]? = W2.heap[B]? := (hbel8.block B hBL).trans hq5
      have hm8 : Mo B W2 w8 := (‹Mo B W2 _ ∧ _›).1.grow hbel8
      obtain ⟨a8, n8, c8, rfl⟩ := own_slice hown8
      have hc8 : w8.cell? ⟨B, kb * 10 + 9, none⟩ = some (.slice a L cap) := (cell_block hq8 _).trans C9.out
      refine hK.out _ _ ?_ (fun hHeld => ?_)
      · (try dsimp only); exact Sy.below hbel8 hTL hBL ‹Mo B W2 _ ∧ _›
      clear hK K
      try simp only [List.getElem_toArray, List.getElem_cons_zero, List.getElem_cons_succ, Act.put, List.setIfInBounds_toArray, List.set_cons_zero, List.set_cons_succ]
      refine wpAnyH_take (i := 20) (v := ?_) rfl (by kernel_rfl) (by kernel_rfl) (by kernel_rfl) (fun _ _ _ h => h) (Or.inl ⟨by rfl, ?_⟩) (by assumption) ?_
      rotate_left
      · (intro W hSw; (try dsimp only at hSw); go_simp; try with_reducible rfl)
      try simp only [List.getElem_toArray, List.getElem_cons_zero, List.getElem_cons_succ, Act.put, List.setIfInBounds_toArray, List.set_cons_zero, List.set_cons_succ]
      refine wpAnyH_take (i := 21) (v := ?_) rfl (by kernel_rfl) (by kernel_rfl) (by kernel_rfl) (fun _ _ _ h => h) (Or.inl ⟨by rfl, ?_⟩) (by assumption) ?_
      rotate_left
      · (intro W hSw; (try dsimp only at hSw); go_simp; try with_reducible rfl)
      try simp only [List.getElem_toArray, List.getElem_cons_zero, List.getElem_cons_succ, Act.put, List.setIfInBounds_toArray, List.set_cons_zero, List.set_cons_succ]
      refine wpAnyH_ready (rs := [22]) (by kernel_rfl) (by simp) ?_
      refine AllReadyH.cons rfl (fun K hK => ?_) AllReadyH.nil
      simp only [List.getElem_toArray, List.getElem_cons_zero, List.getElem_cons_succ]
      go_simp
      refine hK.out _ _ ?_ (fun hHeld => ?_)
      · (try dsimp only); exact Sy.set hTB ‹Mo B W2 _ ∧ _› _
      clear hK K
      try simp only [List.getElem_toArray, List.getElem_cons_zero, List.getElem_cons_succ, Act.put, List.setIfInBounds_toArray, List.set_cons_zero, List.set_cons_succ]
      refine wpAnyH_done (by kernel_rfl) ?_ _
      have hRF := (HRF.out.moEq hm8 hq8).set hb2 (show 9 < 10 by omega) (.slice a8 n8 c8) { G2 kb with sl := .slice a8 n8 c8, ents := (G2 kb).ents ++ [(sa, kx)] } rfl (ent_of hown8 (G2 kb) ((G2 kb).ents ++ [(sa, kx)]) (by rw [List.length_append, HG.out, ← HLE.out]; simp) (by rw [flatE_app, List.nil_append, HG.out]; rfl))
      have hMO := (HM1.out.trans hm8).set (i := kb * 10 + 9) (.slice a8 n8 c8)
      clear hown8 hgrow8 hbel8 hown5 hgrow5 hbel5 hm8 hq8 hm5 hq5 hc8
      generalize w8.setCell ⟨B, kb * 10 + 9, none⟩ (.slice a8 n8 c8) = W3 at *
      have ht3 := HT3.out (.slice a8 n8 c8)
      obtain ⟨G3, hG3⟩ : ∃ G3, updG G2 kb { G2 kb with sl := .slice a8 n8 c8, ents := (G2 kb).ents ++ [(sa, kx)] } = G3 := ⟨_, rfl⟩
      rw [hG3] at hRF ht3
      clear hG3 c0 b9 s9
      have x1 := hRF.c1 kx hx2
      rw [(ht3.sok kx _ HX3.out).kind] at x1
      have x6 := hRF.c6 kx hx2
      rw [(ht3.sok kx _ HX3.out).holds] at x6
      dsimp only at x1 x6
      obtain ⟨hv, hhv⟩ : ∃ hv : Int, ((m.holds + 1 : Nat) : Int) = hv := ⟨_, rfl⟩
      have hv1 : 1 ≤ hv := by omega
      have hv2 : hv ≤ 1000001 := by omega
      rw [hhv] at x6
      have s6 := hRF.frozen (kx * 10 + 6)
      have c0 := hRF.cellT
      have HRF3 := Lib.hid hRF
      have HTI3 := Lib.hid ht3
      have HMO3 := Lib.hid hMO
      have HHV := Lib.hid hhv
      clear hRF ht3 hMO hhv
      first
      | rw [HKD.out] at x1
        have s7 := HRF3.out.frozen (kx * 10 + 7)
        have x7 := HRF3.out.c7 kx hx2
        go_wp2_with fail
        refine (HEND.out _ _ ((HRF3.out.set hx2 (show 7 < 10 by omega) (.int .i64 (kb : Int)) { G3 kx with parent := (kb : Int) } rfl (HRF3.out.ents kx hx2)).set hx2 (show 6 < 10 by omega) (.int .i64 (hv - 1)) { (updG G3 kx { G3 kx with parent := (kb : Int) }) kx with holds := hv - 1 } rfl ((HRF3.out.set hx2 (show 7 < 10 by omega) (.int .i64 (kb : Int)) { G3 kx with parent := (kb : Int) } rfl (HRF3.out.ents kx hx2)).ents kx hx2)) (by rw [← HFX.out]; exact HTI3.out.endD HX3.out HKD.out HHV.out kb) ((HMO3.out.set _).set _)).mono ?_
        rintro e w9 ⟨rfl, hs⟩
        have HS := Lib.hid hs
        clear hs
        go_wp2
        go_ret
        exact ⟨rfl, HS.out⟩
      | go_wp2_with fail
        refine (HEND.out _ _ (HRF3.out.set hx2 (show 6 < 10 by omega) (.int .i64 (hv - 1)) { G3 kx with holds := hv - 1 } rfl (HRF3.out.ents kx hx2)) (by rw [← HFX.out]; exact HTI3.out.endF HX3.out HHV.out) (HMO3.out.set _)).mono ?_
        rintro e w9 ⟨rfl, hs⟩
        have HS := Lib.hid hs
        clear hs
        go_wp2
        go_ret
        exact ⟨rfl, HS.out⟩
    refine AllReadyH.cons rfl (fun K hK => ?_) AllReadyH.nil
    simp only [List.getElem_toArray, List.getElem_cons_zero, List.getElem_cons_succ]
    go_simp
    refine hK.out _ _ ?_ (fun hHeld => ?_)
    · (try dsimp only); exact Sy.below ((Below.refl _ _).alloc (‹Mo B W2 _ ∧ _›).1.size _) hTL hBL ‹Mo B W2 _ ∧ _›
    clear hK K
    try simp only [List.getElem_toArray, List.getElem_cons_zero, List.getElem_cons_succ, Act.put, List.setIfInBounds_toArray, List.set_cons_zero, List.set_cons_succ]
    refine wpAnyH_ready (rs := [5, 13]) (by kernel_rfl) (by simp) ?_
    refine AllReadyH.cons rfl (fun K hK => ?_) ?_
    · simp only [List.getElem_toArray, List.getElem_cons_zero, List.getElem_cons_succ]
      go_simp
      refine hK.out _ _ ?_ (fun hHeld => ?_)
      · (try dsimp only); exact Sy.below ((Below.refl _ _).alloc (‹Mo B W2 _ ∧ _›).1.size _) hTL hBL ‹Mo B W2 _ ∧ _›
      clear hK K
      try simp only [List.getElem_toArray, List.getElem_cons_zero, List.getElem_cons_succ, Act.put, List.setIfInBounds_toArray, List.set_cons_zero, List.set_cons_succ]
      refine wpAnyH_ready (rs := [13]) (by kernel_rfl) (by simp) ?_
      refine AllReadyH.cons rfl (fun K hK => ?_) AllReadyH.nil
      simp only [List.getElem_toArray, List.getElem_cons_zero, List.getElem_cons_succ]
      go_simp
      refine hK.out _ _ ?_ (fun hHeld => ?_)
      · (try dsimp only); assumption
      clear hK K
      try simp only [List.getElem_toArray, List.getElem_cons_zero, List.getElem_cons_succ, Act.put, List.setIfInBounds_toArray, List.set_cons_zero, List.set_cons_succ]
      refine wpAnyH_ready (rs := [14]) (by kernel_rfl) (by simp) ?_
      refine AllReadyH.cons rfl (fun K hK => ?_) AllReadyH.nil
      refine step_app_row2 rfl (.tmp 217) (.tmp 225) 108 rfl W2.heap.size 126 i0 (.agg #[.string ⟨#[]⟩, .int .i64 0]) 24 Try.underlying108 hi0 hz0 hz1 hz2 rfl (.slice (some ⟨(W2.heap.size + 1), 0, none⟩) 0 0) 0 [] ?_ ?_ 0 (.slice a L cap) L (flatE E) ?_ ?_ ?_ ?_ ?_ ?_ ?_
      · simp [Act.eval, Act.put]; done
      · exact (own_empty _ _ _ _ (by simp) (by simp)).drew
      · simp [Act.eval, Act.put]; done
      · exact HSRC.out _ (‹Mo B W2 _ ∧ _›).1
      · exact fun u hu => flatE_one _ u hu
      · unfold maxLen; omega
      · omega
      · exact (‹Mo B W2 _ ∧ _›).1.size
      intro v5 w5 hown5 hgrow5 hbel5
      have hm5 : Mo B W2 w5 := (‹Mo B W2 _ ∧ _›).1.grow hbel5
      have hq5 : w5.heap[B]? = W2.heap[B]? := (hbel5.block B hBL).trans (Below.block ((((Below.refl W2.heap.size W2).drew).alloc (Nat.le_refl _) _).alloc (by simp) _) B hBL)
      refine hK.out _ _ ?_ (fun hHeld => ?_)
      · (try dsimp only); exact Sy.below hbel5 hTL hBL ‹Mo B W2 _ ∧ _›
      clear hK K
      try simp only [List.getElem_toArray, List.getElem_cons_zero, List.getElem_cons_succ, Act.put, List.setIfInBounds_toArray, List.set_cons_zero, List.set_cons_succ]
      refine wpAnyH_ready (rs := [19]) (by kernel_rfl) (by simp) ?_
      refine AllReadyH.cons rfl (fun K hK => ?_) AllReadyH.nil
      refine step_app_row2 rfl (.tmp 226) (.tmp 230) 108 rfl W2.heap.size 126 i0 (.agg #[.string ⟨#[]⟩, .int .i64 0]) 24 Try.underlying108 hi0 hz0 hz1 hz2 rfl v5 (0 + L) ([] ++ flatE E) ?_ ?_ 0 (.slice (some ⟨W2.heap.size, 0, none⟩) 1 1) 1 [.string sa, .int .i64 (kx : Int)] ?_ ?_ ?_ ?_ ?_ ?_ ?_
      · simp [Act.eval, Act.put]; done
      · exact hown5
      · simp [Act.eval, Act.put]; done
      · exact (((own_one _ _ _ _ _ rfl).below2 ((Below.refl _ _).alloc (Nat.le_refl _) _)).drew.kept hgrow5 (.inr (by simp [Value.ownBlock])))
      · exact fun u hu => by (simp only [List.mem_cons, List.not_mem_nil, or_false] at hu; rcases hu with rfl | rfl <;> rfl)
      · unfold maxLen; omega
      · omega
      · exact (‹Mo B W2 _ ∧ _›).1.size
      intro v8 w8 hown8 hgrow8 hbel8
      have hq8 : w8.heap[B]? = W2.heap[B]? := (hbel8.block B hBL).trans hq5
      have hm8 : Mo B W2 w8 := (‹Mo B W2 _ ∧ _›).1.grow hbel8
      obtain ⟨a8, n8, c8, rfl⟩ := own_slice hown8
      have hc8 : w8.cell? ⟨B, kb * 10 + 9, none⟩ = some (.slice a L cap) := (cell_block hq8 _).trans C9.out
      refine hK.out _ _ ?_ (fun hHeld => ?_)
      · (try dsimp only); exact Sy.below hbel8 hTL hBL ‹Mo B W2 _ ∧ _›
      clear hK K
      try simp only [List.getElem_toArray, List.getElem_cons_zero, List.getElem_cons_succ, Act.put, List.setIfInBounds_toArray, List.set_cons_zero, List.set_cons_succ]
      refine wpAnyH_take (i := 20) (v := ?_) rfl (by kernel_rfl) (by kernel_rfl) (by kernel_rfl) (fun _ _ _ h => h) (Or.inl ⟨by rfl, ?_⟩) (by assumption) ?_
      rotate_left
      · (intro W hSw; (try dsimp only at hSw); go_simp; try with_reducible rfl)
      try simp only [List.getElem_toArray, List.getElem_cons_zero, List.getElem_cons_succ, Act.put, List.setIfInBounds_toArray, List.set_cons_zero, List.set_cons_succ]
      refine wpAnyH_take (i := 21) (v := ?_) rfl (by kernel_rfl) (by kernel_rfl) (by kernel_rfl) (fun _ _ _ h => h) (Or.inl ⟨by rfl, ?_⟩) (by assumption) ?_
      rotate_left
      · (intro W hSw; (try dsimp only at hSw); go_simp; try with_reducible rfl)
      try simp only [List.getElem_toArray, List.getElem_cons_zero, List.getElem_cons_succ, Act.put, List.setIfInBounds_toArray, List.set_cons_zero, List.set_cons_succ]
      refine wpAnyH_ready (rs := [22]) (by kernel_rfl) (by simp) ?_
      refine AllReadyH.cons rfl (fun K hK => ?_) AllReadyH.nil
      simp only [List.getElem_toArray, List.getElem_cons_zero, List.getElem_cons_succ]
      go_simp
      refine hK.out _ _ ?_ (fun hHeld => ?_)
      · (try dsimp only); exact Sy.set hTB ‹Mo B W2 _ ∧ _› _
      clear hK K
      try simp only [List.getElem_toArray, List.getElem_cons_zero, List.getElem_cons_succ, Act.put, List.setIfInBounds_toArray, List.set_cons_zero, List.set_cons_succ]
      refine wpAnyH_done (by kernel_rfl) ?_ _
      have hRF := (HRF.out.moEq hm8 hq8).set hb2 (show 9 < 10 by omega) (.slice a8 n8 c8) { G2 kb with sl := .slice a8 n8 c8, ents := (G2 kb).ents ++ [(sa, kx)] } rfl (ent_of hown8 (G2 kb) ((G2 kb).ents ++ [(sa, kx)]) (by rw [List.length_append, HG.out, ← HLE.out]; simp) (by rw [flatE_app, List.nil_append, HG.out]; rfl))
      have hMO := (HM1.out.trans hm8).set (i := kb * 10 + 9) (.slice a8 n8 c8)
      clear hown8 hgrow8 hbel8 hown5 hgrow5 hbel5 hm8 hq8 hm5 hq5 hc8
      generalize w8.setCell ⟨B, kb * 10 + 9, none⟩ (.slice a8 n8 c8) = W3 at *
      have ht3 := HT3.out (.slice a8 n8 c8)
      obtain ⟨G3, hG3⟩ : ∃ G3, updG G2 kb { G2 kb with sl := .slice a8 n8 c8, ents := (G2 kb).ents ++ [(sa, kx)] } = G3 := ⟨_, rfl⟩
      rw [hG3] at hRF ht3
      clear hG3 c0 b9 s9
      have x1 := hRF.c1 kx hx2
      rw [(ht3.sok kx _ HX3.out).kind] at x1
      have x6 := hRF.c6 kx hx2
      rw [(ht3.sok kx _ HX3.out).holds] at x6
      dsimp only at x1 x6
      obtain ⟨hv, hhv⟩ : ∃ hv : Int, ((m.holds + 1 : Nat) : Int) = hv := ⟨_, rfl⟩
      have hv1 : 1 ≤ hv := by omega
      have hv2 : hv ≤ 1000001 := by omega
      rw [hhv] at x6
      have s6 := hRF.frozen (kx * 10 + 6)
      have c0 := hRF.cellT
      have HRF3 := Lib.hid hRF
      have HTI3 := Lib.hid ht3
      have HMO3 := Lib.hid hMO
      have HHV := Lib.hid hhv
      clear hRF ht3 hMO hhv
      first
      | rw [HKD.out] at x1
        have s7 := HRF3.out.frozen (kx * 10 + 7)
        have x7 := HRF3.out.c7 kx hx2
        go_wp2_with fail
        refine (HEND.out _ _ ((HRF3.out.set hx2 (show 7 < 10 by omega) (.int .i64 (kb : Int)) { G3 kx with parent := (kb : Int) } rfl (HRF3.out.ents kx hx2)).set hx2 (show 6 < 10 by omega) (.int .i64 (hv - 1)) { (updG G3 kx { G3 kx with parent := (kb : Int) }) kx with holds := hv - 1 } rfl ((HRF3.out.set hx2 (show 7 < 10 by omega) (.int .i64 (kb : Int)) { G3 kx with parent := (kb : Int) } rfl (HRF3.out.ents kx hx2)).ents kx hx2)) (by rw [← HFX.out]; exact HTI3.out.endD HX3.out HKD.out HHV.out kb) ((HMO3.out.set _).set _)).mono ?_
        rintro e w9 ⟨rfl, hs⟩
        have HS := Lib.hid hs
        clear hs
        go_wp2
        go_ret
        exact ⟨rfl, HS.out⟩
      | go_wp2_with fail
        refine (HEND.out _ _ (HRF3.out.set hx2 (show 6 < 10 by omega) (.int .i64 (hv - 1)) { G3 kx with holds := hv - 1 } rfl (HRF3.out.ents kx hx2)) (by rw [← HFX.out]; exact HTI3.out.endF HX3.out HHV.out) (HMO3.out.set _)).mono ?_
        rintro e w9 ⟨rfl, hs⟩
        have HS := Lib.hid hs
        clear hs
        go_wp2
        go_ret
        exact ⟨rfl, HS.out⟩
    refine AllReadyH.cons rfl (fun K hK => ?_) AllReadyH.nil
    simp only [List.getElem_toArray, List.getElem_cons_zero, List.getElem_cons_succ]
    go_simp
    refine hK.out _ _ ?_ (fun hHeld => ?_)
    · (try dsimp only); assumption
    clear hK K
    try simp only [List.getElem_toArray, List.getElem_cons_zero, List.getElem_cons_succ, Act.put, List.setIfInBounds_toArray, List.set_cons_zero, List.set_cons_succ]
    refine wpAnyH_ready (rs := [5]) (by kernel_rfl) (by simp) ?_
    refine AllReadyH.cons rfl (fun K hK => ?_) AllReadyH.nil
    simp only [List.getElem_toArray, List.getElem_cons_zero, List.getElem_cons_succ]
    go_simp
    refine hK.out _ _ ?_ (fun hHeld => ?_)
    · (try dsimp only); exact Sy.below ((Below.refl _ _).alloc (‹Mo B W2 _ ∧ _›).1.size _) hTL hBL ‹Mo B W2 _ ∧ _›
    clear hK K
    try simp only [List.getElem_toArray, List.getElem_cons_zero, List.getElem_cons_succ, Act.put, List.setIfInBounds_toArray, List.set_cons_zero, List.set_cons_succ]
    refine wpAnyH_ready (rs := [14]) (by kernel_rfl) (by simp) ?_
    refine AllReadyH.cons rfl (fun K hK => ?_) AllReadyH.nil
    refine step_app_row2 rfl (.tmp 217) (.tmp 225) 108 rfl W2.heap.size 126 i0 (.agg #[.string ⟨#[]⟩, .int .i64 0]) 24 Try.underlying108 hi0 hz0 hz1 hz2 rfl (.slice (some ⟨(W2.heap.size + 1), 0, none⟩) 0 0) 0 [] ?_ ?_ 0 (.slice a L cap) L (flatE E) ?_ ?_ ?_ ?_ ?_ ?_ ?_
    · simp [Act.eval, Act.put]; done
    · exact (own_empty _ _ _ _ (by simp) (by simp)).drew
    · simp [Act.eval, Act.put]; done
    · exact HSRC.out _ (‹Mo B W2 _ ∧ _›).1
    · exact fun u hu => flatE_one _ u hu
    · unfold maxLen; omega
    · omega
    · exact (‹Mo B W2 _ ∧ _›).1.size
    intro v5 w5 hown5 hgrow5 hbel5
    have hm5 : Mo B W2 w5 := (‹Mo B W2 _ ∧ _›).1.grow hbel5
    have hq5 : w5.heap[B]? = W2.heap[B]? := (hbel5.block B hBL).trans (Below.block ((((Below.refl W2.heap.size W2).drew).alloc (Nat.le_refl _) _).alloc (by simp) _) B hBL)
    refine hK.out _ _ ?_ (fun hHeld => ?_)
    · (try dsimp only); exact Sy.below hbel5 hTL hBL ‹Mo B W2 _ ∧ _›
    clear hK K
    try simp only [List.getElem_toArray, List.getElem_cons_zero, List.getElem_cons_succ, Act.put, List.setIfInBounds_toArray, List.set_cons_zero, List.set_cons_succ]
    refine wpAnyH_ready (rs := [19]) (by kernel_rfl) (by simp) ?_
    refine AllReadyH.cons rfl (fun K hK => ?_) AllReadyH.nil
    refine step_app_row2 rfl (.tmp 226) (.tmp 230) 108 rfl W2.heap.size 126 i0 (.agg #[.string ⟨#[]⟩, .int .i64 0]) 24 Try.underlying108 hi0 hz0 hz1 hz2 rfl v5 (0 + L) ([] ++ flatE E) ?_ ?_ 0 (.slice (some ⟨W2.heap.size, 0, none⟩) 1 1) 1 [.string sa, .int .i64 (kx : Int)] ?_ ?_ ?_ ?_ ?_ ?_ ?_
    · simp [Act.eval, Act.put]; done
    · exact hown5
    · simp [Act.eval, Act.put]; done
    · exact (((own_one _ _ _ _ _ rfl).below2 ((Below.refl _ _).alloc (Nat.le_refl _) _)).drew.kept hgrow5 (.inr (by simp [Value.ownBlock])))
    · exact fun u hu => by (simp only [List.mem_cons, List.not_mem_nil, or_false] at hu; rcases hu with rfl | rfl <;> rfl)
    · unfold maxLen; omega
    · omega
    · exact (‹Mo B W2 _ ∧ _›).1.size
    intro v8 w8 hown8 hgrow8 hbel8
    have hq8 : w8.heap[B]? = W2.heap[B]? := (hbel8.block B hBL).trans hq5
    have hm8 : Mo B W2 w8 := (‹Mo B W2 _ ∧ _›).1.grow hbel8
    obtain ⟨a8, n8, c8, rfl⟩ := own_slice hown8
    have hc8 : w8.cell? ⟨B, kb * 10 + 9, none⟩ = some (.slice a L cap) := (cell_block hq8 _).trans C9.out
    refine hK.out _ _ ?_ (fun hHeld => ?_)
    · (try dsimp only); exact Sy.below hbel8 hTL hBL ‹Mo B W2 _ ∧ _›
    clear hK K
    try simp only [List.getElem_toArray, List.getElem_cons_zero, List.getElem_cons_succ, Act.put, List.setIfInBounds_toArray, List.set_cons_zero, List.set_cons_succ]
    refine wpAnyH_take (i := 20) (v := ?_) rfl (by kernel_rfl) (by kernel_rfl) (by kernel_rfl) (fun _ _ _ h => h) (Or.inl ⟨by rfl, ?_⟩) (by assumption) ?_
    rotate_left
    · (intro W hSw; (try dsimp only at hSw); go_simp; try with_reducible rfl)
    try simp only [List.getElem_toArray, List.getElem_cons_zero, List.getElem_cons_succ, Act.put, List.setIfInBounds_toArray, List.set_cons_zero, List.set_cons_succ]
    refine wpAnyH_take (i := 21) (v := ?_) rfl (by kernel_rfl) (by kernel_rfl) (by kernel_rfl) (fun _ _ _ h => h) (Or.inl ⟨by rfl, ?_⟩) (by assumption) ?_
    rotate_left
    · (intro W hSw; (try dsimp only at hSw); go_simp; try with_reducible rfl)
    try simp only [List.getElem_toArray, List.getElem_cons_zero, List.getElem_cons_succ, Act.put, List.setIfInBounds_toArray, List.set_cons_zero, List.set_cons_succ]
    refine wpAnyH_ready (rs := [22]) (by kernel_rfl) (by simp) ?_
    refine AllReadyH.cons rfl (fun K hK => ?_) AllReadyH.nil
    simp only [List.getElem_toArray, List.getElem_cons_zero, List.getElem_cons_succ]
    go_simp
    refine hK.out _ _ ?_ (fun hHeld => ?_)
    · (try dsimp only); exact Sy.set hTB ‹Mo B W2 _ ∧ _› _
    clear hK K
    try simp only [List.getElem_toArray, List.getElem_cons_zero, List.getElem_cons_succ, Act.put, List.setIfInBounds_toArray, List.set_cons_zero, List.set_cons_succ]
    refine wpAnyH_done (by kernel_rfl) ?_ _
    have hRF := (HRF.out.moEq hm8 hq8).set hb2 (show 9 < 10 by omega) (.slice a8 n8 c8) { G2 kb with sl := .slice a8 n8 c8, ents := (G2 kb).ents ++ [(sa, kx)] } rfl (ent_of hown8 (G2 kb) ((G2 kb).ents ++ [(sa, kx)]) (by rw [List.length_append, HG.out, ← HLE.out]; simp) (by rw [flatE_app, List.nil_append, HG.out]; rfl))
    have hMO := (HM1.out.trans hm8).set (i := kb * 10 + 9) (.slice a8 n8 c8)
    clear hown8 hgrow8 hbel8 hown5 hgrow5 hbel5 hm8 hq8 hm5 hq5 hc8
    generalize w8.setCell ⟨B, kb * 10 + 9, none⟩ (.slice a8 n8 c8) = W3 at *
    have ht3 := HT3.out (.slice a8 n8 c8)
    obtain ⟨G3, hG3⟩ : ∃ G3, updG G2 kb { G2 kb with sl := .slice a8 n8 c8, ents := (G2 kb).ents ++ [(sa, kx)] } = G3 := ⟨_, rfl⟩
    rw [hG3] at hRF ht3
    clear hG3 c0 b9 s9
    have x1 := hRF.c1 kx hx2
    rw [(ht3.sok kx _ HX3.out).kind] at x1
    have x6 := hRF.c6 kx hx2
    rw [(ht3.sok kx _ HX3.out).holds] at x6
    dsimp only at x1 x6
    obtain ⟨hv, hhv⟩ : ∃ hv : Int, ((m.holds + 1 : Nat) : Int) = hv := ⟨_, rfl⟩
    have hv1 : 1 ≤ hv := by omega
    have hv2 : hv ≤ 1000001 := by omega
    rw [hhv] at x6
    have s6 := hRF.frozen (kx * 10 + 6)
    have c0 := hRF.cellT
    have HRF3 := Lib.hid hRF
    have HTI3 := Lib.hid ht3
    have HMO3 := Lib.hid hMO
    have HHV := Lib.hid hhv
    clear hRF ht3 hMO hhv
    first
    | rw [HKD.out] at x1
      have s7 := HRF3.out.frozen (kx * 10 + 7)
      have x7 := HRF3.out.c7 kx hx2
      go_wp2_with fail
      refine (HEND.out _ _ ((HRF3.out.set hx2 (show 7 < 10 by omega) (.int .i64 (kb : Int)) { G3 kx with parent := (kb : Int) } rfl (HRF3.out.ents kx hx2)).set hx2 (show 6 < 10 by omega) (.int .i64 (hv - 1)) { (updG G3 kx { G3 kx with parent := (kb : Int) }) kx with holds := hv - 1 } rfl ((HRF3.out.set hx2 (show 7 < 10 by omega) (.int .i64 (kb : Int)) { G3 kx with parent := (kb : Int) } rfl (HRF3.out.ents kx hx2)).ents kx hx2)) (by rw [← HFX.out]; exact HTI3.out.endD HX3.out HKD.out HHV.out kb) ((HMO3.out.set _).set _)).mono ?_
      rintro e w9 ⟨rfl, hs⟩
      have HS := Lib.hid hs
      clear hs
      go_wp2
      go_ret
      exact ⟨rfl, HS.out⟩
    | go_wp2_with fail
      refine (HEND.out _ _ (HRF3.out.set hx2 (show 6 < 10 by omega) (.int .i64 (hv - 1)) { G3 kx with holds := hv - 1 } rfl (HRF3.out.ents kx hx2)) (by rw [← HFX.out]; exact HTI3.out.endF HX3.out HHV.out) (HMO3.out.set _)).mono ?_
      rintro e w9 ⟨rfl, hs⟩
      have HS := Lib.hid hs
      clear hs
      go_wp2
      go_ret
      exact ⟨rfl, HS.out⟩
end Go.Proofs.Ytafonmnfeibaiaa.RF
