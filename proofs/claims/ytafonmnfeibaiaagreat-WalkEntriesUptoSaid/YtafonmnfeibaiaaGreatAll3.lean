/- Part 4 of the proof: contracts of functions that the statement reaches, and plain lemmas. -/
import Derived.Test.YtafonmnfeibaiaaGreatAll2
import Derived.Test.YtafonmnfeibaiaaGreatAll1
import Derived.Test.YtafonmnfeibaiaaGreatAll0
import Derived.Deep.QuietTactic
import Derived.BigQuiet
import Derived.Laws.MakeOwn
import Derived.Deep.Cut
import Derived.StillTailTactics
import Derived.Laws.Rows
import Derived.Laws.CopyRow
import Derived.Deep.MidRow
import Derived.Deep.RegionHeld3
set_option linter.all false
set_option maxRecDepth 100000
set_option maxHeartbeats 100000000
namespace Go.Proofs.YtafonmnfeibaiaaGreat.RF
open Go.RowKit
theorem rf_enter_dir {w : World} {t B : Nat} {G : Gt} {T : IT.Tr} (h : Trf w t B G T) (d x : Int) (s : ByteArray) {n m : IT.Nd} (hd : T d.toNat = some n) (hx : T x.toNat = some m) (hk : n.kind = 1) (hok : okN (bs s) = true) (hf : IT.findN (bs s) n.names = none) (hm : ¬ (x.toNat = 1 ∨ (m.kind = 1 ∧ IT.lnk T x.toNat > 0) ∨ IT.lnk T x.toNat ≥ 8)) (h40 : ¬ n.names.length ≥ 40) (hmk : m.kind = 1) (hbe : ¬ IT.Bel T x.toNat d.toNat) :
  Calls Tryz.prog 100 #[.pointer (some ⟨t, 0, none⟩), .int .i64 d, .string s, .int .i64 x] w fun e w' => e = .returned (.int .i64 0) ∧ AdP w t B (updG G x.toNat { G x.toNat with parent := (d.toNat : Int) }) d.toNat s x.toNat w' := by
 have HI1 := Hd (rY h d hd)
 have HI2 := Hd (rY h x hx)
 obtain ⟨kd, rfl, hd1, hd2, hdk⟩ := h.nat hd
 obtain ⟨kx, rfl, hx1, hx2, hxk⟩ := h.nat hx
 have c0 := h.rep.cellT
 have b1 := h.rep.c1 kd hd2
 rw [(h.ties.sok kd n hdk).kind] at b1
 rw [hk] at b1
 have HN := Hd (rname_ok s w)
 rw [hok] at HN
 have hfn := ((h.ties.find h.snd.1 hdk s).resolve_right (fun ⟨i, y, e, _⟩ => by rw [hf] at e; cases e)).2
 have HA := Hd (rf_at_none h.rep kd hd2 s hfn)
 have hS := sumG_lnk h.snd.1.rng h.ties kx
 have HL := Hd (rf_sum h.rep kx (h.ties.few h.snd.1))
 rw [hS] at HL
 have b1x := h.rep.c1 kx hx2
 rw [(h.ties.sok kx m hxk).kind] at b1x
 have hl8 := h.snd.1.many kx
 rw [Int.toNat_natCast] at hm
 have q1 : ¬ kx = 1 := fun e => hm (.inl e)
 have z1 : ((kx : Int) == 1) = false := by simpa using (show ¬ (kx : Int) = 1 by omega)
 have hl7 : ¬ IT.lnk T kx ≥ 8 := fun e => hm (.inr (.inr e))
 have hl8' : ((IT.lnk T kx : Nat) : Int) < 8 := by omega
 have hdz : m.kind = 1 → IT.lnk T kx = 0 := fun e => by
  have := fun e2 => hm (.inr (.inl ⟨e, e2⟩))
  omega
 have b9 := h.rep.c9 kd hd2
 obtain ⟨a, cap, hs, hcp1, hcp2, _⟩ := (h.rep.ents kd hd2).lit
 rw [hs] at b9
 have hnl : n.names.length = (G kd).ents.length := by have := (h.ties.sok kd n hdk).names.length_eq; unfold ents at this; rw [List.length_map] at this; exact this.symm
 rw [hnl] at h40
 have hL1 : ((G kd).ents.length : Int) < 40 := by omega
 have hL2 : (G kd).ents.length < 40 := by omega
 obtain ⟨i0, hi0, hz0, hz1, hz2⟩ := info_parts info_entry
 have hne : kd ≠ kx := fun e => hbe (by
  have e2 : (kd : Int).toNat = (kx : Int).toNat := by omega
  rw [e2]; exact .self)
 have HWI : Hid (Calls Tryz.prog 124 #[.pointer (some ⟨t, 0, none⟩), .int .i64 (kd : Int), .int .i64 (kx : Int)] w fun e w' => e = .returned (.bool false) ∧ w = w') := Hd ((rf_within h kd kx hdk hk).mono (by
  rintro e w' ⟨b, rfl, hb, rfl⟩
  cases b with
  | false => exact ⟨rfl, rfl⟩
  | true => exact absurd (hb.1 rfl) hbe))
 have hz := hdz hmk
 rw [hz, show ((0 : Nat) : Int) = 0 from rfl] at HL
 rw [hmk] at b1x
 have b7 := h.rep.c7 kx hx2
 have s7 := h.rep.frozen (kx * 10 + 7)
 have hrf1 := h.rep.set hx2 (show 7 < 10 by omega) (.int .i64 (kd : Int)) { G kx with parent := (kd : Int) } rfl (h.rep.ents kx hx2)
 have hmo1 := (Mo.refl B w).set (i := kx * 10 + 7) (.int .i64 (kd : Int))
 obtain ⟨G1, hG1⟩ : ∃ G1, updG G kx { G kx with parent := (kd : Int) } = G1 := ⟨_, rfl⟩
 have hGd : G1 kd = G kd := by rw [← hG1, updG_other _ _ hne]
 rw [hG1] at hrf1
 obtain ⟨E, hE0⟩ : ∃ E, (G kd).ents = E := ⟨_, rfl⟩
 have hE1 : (G1 kd).ents = E := by rw [hGd]; exact hE0
 have hs1 : (G1 kd).sl = .slice a E.length cap := by rw [hGd, hs, hE0]
 obtain ⟨L, hL⟩ : ∃ L, E.length = L := ⟨_, rfl⟩
 rw [hE0, hL] at hL1 hL2 b9
 rw [hL] at hs1
 have HLE := Hd hL
 have HG := Hd hE1
 have HRF1 := Hd hrf1
 have HMO1 := Hd hmo1
 rw [Int.toNat_natCast, Int.toNat_natCast, hG1]
 clear h hd hx hdk hxk hk hok hf hfn hS hm q1 hs hcp1 hcp2 hnl hmk hdz hL h40 hz hbe hG1 hGd hE0 hrf1 hmo1 hl8' hl7 hl8 hne
 generalize IT.lnk T kx = ln at *
 go_enter Tryz.func100, Tryz.ntmps100
 go_wp2_with fail
 refine HI1.out.mono ?_
 rintro e wz ⟨rfl, rfl⟩
 go_wp2_with fail
 refine HI2.out.mono ?_
 rintro e wz ⟨rfl, rfl⟩
 go_wp2_with fail
 refine HN.out.mono ?_
 rintro e wz ⟨rfl, rfl⟩
 go_wp2_with fail
 refine HA.out.mono ?_
 rintro e wz ⟨rfl, rfl⟩
 go_wp2_with fail
 refine HL.out.mono ?_
 rintro e wz ⟨rfl, rfl⟩
 go_wp2_with fail
 refine HWI.out.mono ?_
 rintro e wz ⟨rfl, rfl⟩
 go_upto_region 22 with fail
 clear c0 b1 b1x b9 b7 s7
 have hrf := HRF1.out
 have hmo := HMO1.out
 generalize w.setCell ⟨B, kx * 10 + 7, none⟩ (.int .i64 (kd : Int)) = W1 at *
 have HM1 := Hd hmo
 clear hmo
 have HRF := Hd hrf
 have hBL := hrf.ltB
 have hTL := hrf.ltT
 have hTB := hrf.ne
 have c0 := hrf.cellT
 have b9 := hrf.c9 kd hd2
 rw [hs1] at b9
 have C9 := Hd b9
 have s9 := hrf.frozen (kd * 10 + 9)
 have HSRC : Hid (∀ W', Mo B W1 W' → W'.ownsRow 0 148 2 (.slice a L cap) L (flatE E)) := Hd (fun W' hm => by
  have := EntAt.mo HRF.out (HRF.out.ents kd hd2) hm
  unfold EntAt at this
  rw [hs1, hE1, HLE.out] at this
  rw [← HLE.out] at this ⊢
  exact this)
 have n1 : kd < 201 := by omega
 have n2 : (kd : Int) < 201 := by omega
 clear hrf
 clear hs1 hE1
 refine wp_region_held_drew (S := (fun W' => Mo B W1 W' ∧ W'.cell? ⟨t, 0, none⟩ = some (.slice (some ⟨B, 0, none⟩) 201 201) ∧ W'.frozen? ⟨B, kd * 10 + 9, none⟩ = false)) (by kernel_rfl) (Sy.below (Below.refl _ _).drew hTL hBL (Sy.start HRF.out _)) (fun hHeld => ?_)
 refine wpAnyH_take (i := 0) (v := ?_) rfl (by kernel_rfl) (by kernel_rfl) (by kernel_rfl) (fun _ _ _ h => h) (.inl ⟨by rfl, ?_⟩) (by assumption) ?_
 rotate_left
 · (intro W hSw; (try dsimp only at hSw); go_simp; try with_reducible rfl)
 try simp only [lA, lB, lC, Act.put, lD, lE, lF]
 refine wpAnyH_take (i := 1) (v := ?_) rfl (by kernel_rfl) (by kernel_rfl) (by kernel_rfl) (fun _ _ _ h => h) (.inl ⟨by rfl, ?_⟩) (by assumption) ?_
 rotate_left
 · (intro W hSw; (try dsimp only at hSw); go_simp; try with_reducible rfl)
 try simp only [lA, lB, lC, Act.put, lD, lE, lF]
 refine wpAnyH_take (i := 2) (v := ?_) rfl (by kernel_rfl) (by kernel_rfl) (by kernel_rfl) (fun _ _ _ h => h) (.inl ⟨by rfl, ?_⟩) (by assumption) ?_
 rotate_left
 · (intro W hSw; (try dsimp only at hSw); go_simp; try with_reducible rfl)
 try simp only [lA, lB, lC, Act.put, lD, lE, lF]
 refine wpAnyH_take (i := 3) (v := ?_) rfl (by kernel_rfl) (by kernel_rfl) (by kernel_rfl) (fun _ _ _ h => h) (.inl ⟨by rfl, ?_⟩) (by assumption) ?_
 rotate_left
 · (intro W hSw; (try dsimp only at hSw); go_simp; try with_reducible rfl)
 try simp only [lA, lB, lC, Act.put, lD, lE, lF]
 refine wpAnyH_take (i := 4) (v := ?_) rfl (by kernel_rfl) (by kernel_rfl) (by kernel_rfl) (fun _ _ _ h => h) (.inl ⟨by rfl, ?_⟩) (by assumption) ?_
 rotate_left
 · (intro W hSw; (try dsimp only at hSw); go_simp; try with_reducible rfl)
 try simp only [lA, lB, lC, Act.put, lD, lE, lF]
 refine wpAnyH_take (i := 6) (v := ?_) rfl (by kernel_rfl) (by kernel_rfl) (by kernel_rfl) (fun _ _ _ h => h) (.inl ⟨by rfl, ?_⟩) (by assumption) ?_
 rotate_left
 · (intro W hSw; (try dsimp only at hSw); go_simp; try with_reducible rfl)
 try simp only [lA, lB, lC, Act.put, lD, lE, lF]
 refine wpAnyH_take (i := 7) (v := ?_) rfl (by kernel_rfl) (by kernel_rfl) (by kernel_rfl) (fun _ _ _ h => h) (.inl ⟨by rfl, ?_⟩) (by assumption) ?_
 rotate_left
 · (intro W hSw; (try dsimp only at hSw); go_simp; try with_reducible rfl)
 try simp only [lA, lB, lC, Act.put, lD, lE, lF]
 refine wpAnyH_take (i := 8) (v := ?_) rfl (by kernel_rfl) (by kernel_rfl) (by kernel_rfl) (fun _ _ _ h => h) (.inl ⟨by rfl, ?_⟩) (by assumption) ?_
 rotate_left
 · (intro W hSw; (try dsimp only at hSw); go_simp; try with_reducible rfl)
 try simp only [lA, lB, lC, Act.put, lD, lE, lF]
 refine wpAnyH_take (i := 9) (v := ?_) rfl (by kernel_rfl) (by kernel_rfl) (by kernel_rfl) (fun _ _ _ h => h) (.inl ⟨by rfl, ?_⟩) (by assumption) ?_
 rotate_left
 · (intro W hSw; (try dsimp only at hSw); go_simp; try with_reducible rfl)
 try simp only [lA, lB, lC, Act.put, lD, lE, lF]
 refine wpAnyH_take (i := 10) (v := ?_) rfl (by kernel_rfl) (by kernel_rfl) (by kernel_rfl) (fun _ _ _ h => h) (.inl ⟨by rfl, ?_⟩) (by assumption) ?_
 rotate_left
 · (intro W hSw; (try dsimp only at hSw); go_simp; try with_reducible rfl)
 try simp only [lA, lB, lC, Act.put, lD, lE, lF]
 refine wpAnyH_take (i := 11) (v := ?_) rfl (by kernel_rfl) (by kernel_rfl) (by kernel_rfl) (fun _ _ _ h => h) (.inl ⟨by rfl, ?_⟩) (by assumption) ?_
 rotate_left
 · (intro W hSw; (try dsimp only at hSw); go_simp; try with_reducible rfl)
 try simp only [lA, lB, lC, Act.put, lD, lE, lF]
 refine wpAnyH_take (i := 12) (v := ?_) rfl (by kernel_rfl) (by kernel_rfl) (by kernel_rfl) (fun _ _ _ h => h) (.inl ⟨by rfl, ?_⟩) (by assumption) ?_
 rotate_left
 · (intro W hSw; (try dsimp only at hSw); go_simp; try with_reducible rfl)
 try simp only [lA, lB, lC, Act.put, lD, lE, lF]
 refine wpAnyH_take (i := 15) (v := ?_) rfl (by kernel_rfl) (by kernel_rfl) (by kernel_rfl) (fun _ _ _ h => h) (.inl ⟨by rfl, ?_⟩) (by assumption) ?_
 rotate_left
 · (intro W hSw; (try dsimp only at hSw); go_simp; try with_reducible rfl)
 try simp only [lA, lB, lC, Act.put, lD, lE, lF]
 refine wpAnyH_take (i := 16) (v := ?_) rfl (by kernel_rfl) (by kernel_rfl) (by kernel_rfl) (fun _ _ _ h => h) (.inl ⟨by rfl, ?_⟩) (by assumption) ?_
 rotate_left
 · (intro W hSw; (try dsimp only at hSw); go_simp; try with_reducible rfl)
 try simp only [lA, lB, lC, Act.put, lD, lE, lF]
 refine wpAnyH_take (i := 17) (v := ?_) rfl (by kernel_rfl) (by kernel_rfl) (by kernel_rfl) (fun _ _ _ h => h) (.inl ⟨by rfl, ?_⟩) (by assumption) ?_
 rotate_left
 · (intro W hSw; (try dsimp only at hSw); go_simp; try with_reducible rfl)
 try simp only [lA, lB, lC, Act.put, lD, lE, lF]
 iterate 4
  all_goals
   first
   | have _ := m5; have _ := m13; have _ := m14; refine wpAnyH_ready (rs := [18]) (by kernel_rfl) (by simp) ?_; refine AllReadyH.cons rfl (fun K hK => have m18 := Hd trivial; ?_) AllReadyH.nil
   | have _ := m5; have _ := m13; have _ := m18; refine wpAnyH_ready (rs := [14]) (by kernel_rfl) (by simp) ?_; refine AllReadyH.cons rfl (fun K hK => have m14 := Hd trivial; ?_) AllReadyH.nil
   | have _ := m5; have _ := m13; refine wpAnyH_ready (rs := [14, 18]) (by kernel_rfl) (by simp) ?_; refine AllReadyH.cons rfl (fun K hK => have m14 := Hd trivial; ?_) (AllReadyH.cons rfl (fun K hK => have m18 := Hd trivial; ?_) AllReadyH.nil)
   | have _ := m5; have _ := m18; refine wpAnyH_ready (rs := [13]) (by kernel_rfl) (by simp) ?_; refine AllReadyH.cons rfl (fun K hK => have m13 := Hd trivial; ?_) AllReadyH.nil
   | have _ := m13; have _ := m18; refine wpAnyH_ready (rs := [5]) (by kernel_rfl) (by simp) ?_; refine AllReadyH.cons rfl (fun K hK => have m5 := Hd trivial; ?_) AllReadyH.nil
   | have _ := m5; refine wpAnyH_ready (rs := [13, 18]) (by kernel_rfl) (by simp) ?_; refine AllReadyH.cons rfl (fun K hK => have m13 := Hd trivial; ?_) (AllReadyH.cons rfl (fun K hK => have m18 := Hd trivial; ?_) AllReadyH.nil)
   | have _ := m13; refine wpAnyH_ready (rs := [5, 18]) (by kernel_rfl) (by simp) ?_; refine AllReadyH.cons rfl (fun K hK => have m5 := Hd trivial; ?_) (AllReadyH.cons rfl (fun K hK => have m18 := Hd trivial; ?_) AllReadyH.nil)
   | have _ := m18; refine wpAnyH_ready (rs := [5, 13]) (by kernel_rfl) (by simp) ?_; refine AllReadyH.cons rfl (fun K hK => have m5 := Hd trivial; ?_) (AllReadyH.cons rfl (fun K hK => have m13 := Hd trivial; ?_) AllReadyH.nil)
   | refine wpAnyH_ready (rs := [5, 13, 18]) (by kernel_rfl) (by simp) ?_; refine AllReadyH.cons rfl (fun K hK => have m5 := Hd trivial; ?_) (AllReadyH.cons rfl (fun K hK => have m13 := Hd trivial; ?_) (AllReadyH.cons rfl (fun K hK => have m18 := Hd trivial; ?_) AllReadyH.nil))
  all_goals
   first
   | refine aX rfl (.tmp 105) (.tmp 113) 110 rfl W1.heap.size 148 i0 (.agg #[.string ⟨#[]⟩, .int .i64 0]) 24 Tryz.underlying110 hi0 hz0 hz1 hz2 rfl (.slice (some ⟨W1.heap.size, 0, none⟩) 0 0) 0 [] ?_ ?_ 0 (.slice a L cap) L (flatE E) ?_ ?_ ?_ ?_ ?_ ?_ ?_
     · simp [Act.eval, Act.put]; done
     · exact (own_empty _ _ _ _ rfl (Nat.le_refl _)).drew
     · simp [Act.eval, Act.put]; done
     · exact HSRC.out _ (‹Mo B W1 _ ∧ _›).1
     · exact fun u hu => flatE_one _ u hu
     · unfold maxLen; omega
     · omega
     · exact (‹Mo B W1 _ ∧ _›).1.size
     intro v5 w5 hown5 hgrow5 hbel5
     have hm5 : Mo B W1 w5 := (‹Mo B W1 _ ∧ _›).1.grow hbel5
     have hq5 : w5.heap[B]? = W1.heap[B]? := (hbel5.block B hBL).trans (Below.block (((Below.refl W1.heap.size W1).drew).alloc (Nat.le_refl _) _) B hBL)
   | refine aX rfl (.tmp 105) (.tmp 113) 110 rfl W1.heap.size 148 i0 (.agg #[.string ⟨#[]⟩, .int .i64 0]) 24 Tryz.underlying110 hi0 hz0 hz1 hz2 rfl (.slice (some ⟨W1.heap.size, 0, none⟩) 0 0) 0 [] ?_ ?_ 0 (.slice a L cap) L (flatE E) ?_ ?_ ?_ ?_ ?_ ?_ ?_
     · simp [Act.eval, Act.put]; done
     · exact ((own_empty _ _ _ _ rfl (Nat.le_refl _)).below2 ((Below.refl _ _).alloc (Nat.le_refl _) _)).drew
     · simp [Act.eval, Act.put]; done
     · exact HSRC.out _ (‹Mo B W1 _ ∧ _›).1
     · exact fun u hu => flatE_one _ u hu
     · unfold maxLen; omega
     · omega
     · exact (‹Mo B W1 _ ∧ _›).1.size
     intro v5 w5 hown5 hgrow5 hbel5
     have hm5 : Mo B W1 w5 := (‹Mo B W1 _ ∧ _›).1.grow hbel5
     have hq5 : w5.heap[B]? = W1.heap[B]? := (hbel5.block B hBL).trans (Below.block ((((Below.refl W1.heap.size W1).drew).alloc (Nat.le_refl _) _).alloc (by simp) _) B hBL)
   | refine aX rfl (.tmp 105) (.tmp 113) 110 rfl W1.heap.size 148 i0 (.agg #[.string ⟨#[]⟩, .int .i64 0]) 24 Tryz.underlying110 hi0 hz0 hz1 hz2 rfl (.slice (some ⟨(W1.heap.size + 1), 0, none⟩) 0 0) 0 [] ?_ ?_ 0 (.slice a L cap) L (flatE E) ?_ ?_ ?_ ?_ ?_ ?_ ?_
     · simp [Act.eval, Act.put]; done
     · exact (own_empty _ _ _ _ (by simp) (by simp)).drew
     · simp [Act.eval, Act.put]; done
     · exact HSRC.out _ (‹Mo B W1 _ ∧ _›).1
     · exact fun u hu => flatE_one _ u hu
     · unfold maxLen; omega
     · omega
     · exact (‹Mo B W1 _ ∧ _›).1.size
     intro v5 w5 hown5 hgrow5 hbel5
     have hm5 : Mo B W1 w5 := (‹Mo B W1 _ ∧ _›).1.grow hbel5
     have hq5 : w5.heap[B]? = W1.heap[B]? := (hbel5.block B hBL).trans (Below.block ((((Below.refl W1.heap.size W1).drew).alloc (Nat.le_refl _) _).alloc (by simp) _) B hBL)
   | simp only [lA, lB, lC]; go_simp
   refine hK.out _ _ ?_ (fun hHeld => ?_)
   · (try dsimp only); first | with_reducible assumption | exact Sy.below ((Below.refl _ _).alloc (‹Mo B W1 _ ∧ _›).1.size _) hTL hBL ‹Mo B W1 _ ∧ _› | exact Sy.below hbel5 hTL hBL ‹Mo B W1 _ ∧ _›
   clear hK K
   try simp only [lA, lB, lC, Act.put, lD, lE, lF]
 all_goals
  refine wpAnyH_ready (rs := [19]) (by kernel_rfl) (by simp) ?_
  refine AllReadyH.cons rfl (fun K hK => ?_) AllReadyH.nil
  first
  | refine aX rfl (.tmp 114) (.tmp 118) 110 rfl W1.heap.size 148 i0 (.agg #[.string ⟨#[]⟩, .int .i64 0]) 24 Tryz.underlying110 hi0 hz0 hz1 hz2 rfl v5 (0 + L) ([] ++ flatE E) ?_ ?_ 0 (.slice (some ⟨w5.heap.size, 0, none⟩) 1 1) 1 [.string s, .int .i64 (kx : Int)] ?_ ?_ ?_ ?_ ?_ ?_ ?_
    · simp [Act.eval, Act.put]; done
    · exact hown5.below2 ((Below.refl _ _).alloc (Nat.le_refl _) _)
    · simp [Act.eval, Act.put]; done
    · exact own_one _ _ _ _ _ rfl
    · exact fun u hu => by (simp only [List.mem_cons, List.not_mem_nil, or_false] at hu; rcases hu with rfl | rfl <;> rfl)
    · unfold maxLen; omega
    · omega
    · exact (‹Mo B W1 _ ∧ _›).1.size
    intro v8 w8 hown8 hgrow8 hbel8
    have hq8 : w8.heap[B]? = W1.heap[B]? := (hbel8.block B hBL).trans ((Below.block ((Below.refl _ w5).alloc (Nat.le_refl _) _) B (by have := hm5.size; omega)).trans hq5)
    have hm8 : Mo B W1 w8 := (‹Mo B W1 _ ∧ _›).1.grow hbel8
    obtain ⟨a8, n8, c8, rfl⟩ := own_slice hown8
    have hc8 : w8.cell? ⟨B, kd * 10 + 9, none⟩ = some (.slice a L cap) := (cell_block hq8 _).trans C9.out
  | refine aX rfl (.tmp 114) (.tmp 118) 110 rfl W1.heap.size 148 i0 (.agg #[.string ⟨#[]⟩, .int .i64 0]) 24 Tryz.underlying110 hi0 hz0 hz1 hz2 rfl v5 (0 + L) ([] ++ flatE E) ?_ ?_ 0 (.slice (some ⟨(W1.heap.size + 1), 0, none⟩) 1 1) 1 [.string s, .int .i64 (kx : Int)] ?_ ?_ ?_ ?_ ?_ ?_ ?_
    · simp [Act.eval, Act.put]; done
    · exact hown5
    · simp [Act.eval, Act.put]; done
    · exact ((own_one _ _ _ _ _ (by simp)).drew.kept hgrow5 (.inr (by simp [Value.ownBlock])))
    · exact fun u hu => by (simp only [List.mem_cons, List.not_mem_nil, or_false] at hu; rcases hu with rfl | rfl <;> rfl)
    · unfold maxLen; omega
    · omega
    · exact (‹Mo B W1 _ ∧ _›).1.size
    intro v8 w8 hown8 hgrow8 hbel8
    have hq8 : w8.heap[B]? = W1.heap[B]? := (hbel8.block B hBL).trans hq5
    have hm8 : Mo B W1 w8 := (‹Mo B W1 _ ∧ _›).1.grow hbel8
    obtain ⟨a8, n8, c8, rfl⟩ := own_slice hown8
    have hc8 : w8.cell? ⟨B, kd * 10 + 9, none⟩ = some (.slice a L cap) := (cell_block hq8 _).trans C9.out
  | refine aX rfl (.tmp 114) (.tmp 118) 110 rfl W1.heap.size 148 i0 (.agg #[.string ⟨#[]⟩, .int .i64 0]) 24 Tryz.underlying110 hi0 hz0 hz1 hz2 rfl v5 (0 + L) ([] ++ flatE E) ?_ ?_ 0 (.slice (some ⟨W1.heap.size, 0, none⟩) 1 1) 1 [.string s, .int .i64 (kx : Int)] ?_ ?_ ?_ ?_ ?_ ?_ ?_
    · simp [Act.eval, Act.put]; done
    · exact hown5
    · simp [Act.eval, Act.put]; done
    · exact (((own_one _ _ _ _ _ rfl).below2 ((Below.refl _ _).alloc (Nat.le_refl _) _)).drew.kept hgrow5 (.inr (by simp [Value.ownBlock])))
    · exact fun u hu => by (simp only [List.mem_cons, List.not_mem_nil, or_false] at hu; rcases hu with rfl | rfl <;> rfl)
    · unfold maxLen; omega
    · omega
    · exact (‹Mo B W1 _ ∧ _›).1.size
    intro v8 w8 hown8 hgrow8 hbel8
    have hq8 : w8.heap[B]? = W1.heap[B]? := (hbel8.block B hBL).trans hq5
    have hm8 : Mo B W1 w8 := (‹Mo B W1 _ ∧ _›).1.grow hbel8
    obtain ⟨a8, n8, c8, rfl⟩ := own_slice hown8
    have hc8 : w8.cell? ⟨B, kd * 10 + 9, none⟩ = some (.slice a L cap) := (cell_block hq8 _).trans C9.out
  refine hK.out _ _ ?_ (fun hHeld => ?_)
  · (try dsimp only); exact Sy.below hbel8 hTL hBL ‹Mo B W1 _ ∧ _›
  clear hK K
  try simp only [lA, lB, lC, Act.put, lD, lE, lF]
  refine wpAnyH_take (i := 20) (v := ?_) rfl (by kernel_rfl) (by kernel_rfl) (by kernel_rfl) (fun _ _ _ h => h) (.inl ⟨by rfl, ?_⟩) (by assumption) ?_
  rotate_left
  · (intro W hSw; (try dsimp only at hSw); go_simp; try with_reducible rfl)
  try simp only [lA, lB, lC, Act.put, lD, lE, lF]
  refine wpAnyH_take (i := 21) (v := ?_) rfl (by kernel_rfl) (by kernel_rfl) (by kernel_rfl) (fun _ _ _ h => h) (.inl ⟨by rfl, ?_⟩) (by assumption) ?_
  rotate_left
  · (intro W hSw; (try dsimp only at hSw); go_simp; try with_reducible rfl)
  try simp only [lA, lB, lC, Act.put, lD, lE, lF]
  refine wpAnyH_ready (rs := [22]) (by kernel_rfl) (by simp) ?_
  refine AllReadyH.cons rfl (fun K hK => ?_) AllReadyH.nil
  simp only [lA, lB, lC]
  go_simp
  refine hK.out _ _ ?_ (fun hHeld => ?_)
  · (try dsimp only); exact Sy.set hTB ‹Mo B W1 _ ∧ _› _
  clear hK K
  try simp only [lA, lB, lC, Act.put, lD, lE, lF]
  refine wpAnyH_done (by kernel_rfl) ?_ _
  have hRF := Hd ((HRF.out.moEq hm8 hq8).set hd2 (show 9 < 10 by omega) (.slice a8 n8 c8) { G1 kd with sl := .slice a8 n8 c8, ents := E ++ [(s, kx)] } rfl (ent_of hown8 (G1 kd) (E ++ [(s, kx)]) (by rw [List.length_append, ← HLE.out]; simp) (by rw [flatE_app, List.nil_append]; rfl)))
  have hMO := Hd ((HM1.out.trans hm8).set (i := kd * 10 + 9) (.slice a8 n8 c8))
  clear hown8 hgrow8 hbel8 hown5 hgrow5 hbel5 hm8 hq8 hm5 hq5 hc8
  go_wp2
  go_ret
  refine ⟨rfl, .slice a8 n8 c8, ?_, hMO.out⟩
  rw [show (G1 kd).ents = E from HG.out]
  exact hRF.out
open Go.RowKit Classical
theorem ents_app (l : List (ByteArray × Nat)) (s : ByteArray) (x : Nat) : ents (l ++ [(s, x)]) = ents l ++ [(bs s, x)] := by
 unfold ents; rw [List.map_append]; rfl
theorem Tie.more {G : Gt} {T : IT.Tr} (h : Tie G T) {d x : Nat} {n : IT.Nd} (hd : T d = some n) (s : ByteArray) (v : Value) : Tie (updG G d { G d with sl := v, ents := (G d).ents ++ [(s, x)] }) (IT.upd T d (some { n with names := IT.insN (bs s) x n.names })) := by
 have hk := h.sok d n hd
 exact h.set d ⟨hk.is, hk.kind, hk.mode, hk.owner, hk.group, hk.tty, hk.holds, hk.parent, hk.data, by
  show (ents ((G d).ents ++ [(s, x)])).Perm (IT.insN (bs s) x n.names)
  rw [ents_app]
  exact (List.Perm.append_right _ hk.names).trans (IT.perm_ins (List.Perm.refl _) _ _)⟩
theorem upd_self {T : IT.Tr} {x : Nat} {m : IT.Nd} (hx : T x = some m) : IT.upd T x (some m) = T := by
 funext j
 unfold IT.upd
 by_cases e : j = x
 · rw [if_pos e, e, hx]
 · rw [if_neg e]
theorem rf_enter {w : World} {t B : Nat} {G : Gt} {T : IT.Tr} (h : Trf w t B G T) (d x : Int) (s : ByteArray) :
  Calls Tryz.prog 100 #[.pointer (some ⟨t, 0, none⟩), .int .i64 d, .string s, .int .i64 x] w fun e w' => ∃ r, e = .returned (.int .i64 r) ∧ Stf w t B (fun T' => IT.isEnter okN T d.toNat (bs s) x.toNat r T') w' := by
 have hstay : ∀ {r : Int} {e : Ending} {w' : World}, IT.isEnter okN T d.toNat (bs s) x.toNat r T → e = .returned (.int .i64 r) ∧ w = w' → ∃ r, e = .returned (.int .i64 r) ∧ Stf w t B (fun T' => IT.isEnter okN T d.toNat (bs s) x.toNat r T') w' := by
  rintro r e w' hr ⟨rfl, rfl⟩
  exact ⟨r, rfl, Stf.keep h (Below.refl _ _) hr⟩
 cases hd : T d.toNat with
 | none =>
   refine (rf_enter_no h d x s (.inl hd)).mono fun e w' => hstay ?_
   unfold IT.isEnter; rw [hd]; exact ⟨rfl, rfl⟩
 | some n =>
 cases hx : T x.toNat with
 | none =>
   refine (rf_enter_no h d x s (.inr hx)).mono fun e w' => hstay ?_
   unfold IT.isEnter; rw [hd, hx]; exact ⟨rfl, rfl⟩
 | some m =>
 have hE : ∀ (r : Int) (T' : IT.Tr), IT.isEnter okN T d.toNat (bs s) x.toNat r T' = (if n.kind ≠ 1 then r = 6 ∧ T' = T
  else if okN (bs s) = false then r = 1 ∧ T' = T
  else if IT.findN (bs s) n.names ≠ none then r = 5 ∧ T' = T
  else if x.toNat = 1 ∨ (m.kind = 1 ∧ IT.lnk T x.toNat > 0) ∨ IT.lnk T x.toNat ≥ 8 then r = 12 ∧ T' = T
  else if n.names.length ≥ 40 then r = 9 ∧ T' = T
  else if m.kind = 1 ∧ IT.Bel T x.toNat d.toNat then r = 8 ∧ T' = T
  else r = 0 ∧ T' = IT.entT T d.toNat x.toNat (bs s) n m) := fun r T' => by unfold IT.isEnter; rw [hd, hx]
 by_cases h1 : n.kind ≠ 1
 · refine (rf_enter_nodir h d x s hd hx h1).mono fun e w' => hstay ?_
   rw [hE, if_pos h1]; exact ⟨rfl, rfl⟩
 by_cases h2 : okN (bs s) = false
 · refine (rf_enter_name h d x s hd hx (Decidable.not_not.1 h1) h2).mono fun e w' => hstay ?_
   rw [hE, if_neg h1, if_pos h2]; exact ⟨rfl, rfl⟩
 have h2' : okN (bs s) = true := by simpa using h2
 have h1' : n.kind = 1 := Decidable.not_not.1 h1
 by_cases h3 : IT.findN (bs s) n.names ≠ none
 · refine (rf_enter_is h d x s hd hx h1' h2' h3).mono fun e w' => hstay ?_
   rw [hE, if_neg h1, if_neg h2, if_pos h3]; exact ⟨rfl, rfl⟩
 have h3' : IT.findN (bs s) n.names = none := Decidable.not_not.1 h3
 by_cases h4 : x.toNat = 1 ∨ (m.kind = 1 ∧ IT.lnk T x.toNat > 0) ∨ IT.lnk T x.toNat ≥ 8
 · refine (rf_enter_many h d x s hd hx h1' h2' h3' h4).mono fun e w' => hstay ?_
   rw [hE, if_neg h1, if_neg h2, if_neg h3, if_pos h4]; exact ⟨rfl, rfl⟩
 by_cases h5 : n.names.length ≥ 40
 · refine (rf_enter_full h d x s hd hx h1' h2' h3' h4 h5).mono fun e w' => hstay ?_
   rw [hE, if_neg h1, if_neg h2, if_neg h3, if_neg h4, if_pos h5]; exact ⟨rfl, rfl⟩
 by_cases h6 : m.kind = 1
 · by_cases h7 : IT.Bel T x.toNat d.toNat
   · refine (rf_enter_busy h d x s hd hx h1' h2' h3' h4 h5 h6 h7).mono fun e w' => hstay ?_
     rw [hE, if_neg h1, if_neg h2, if_neg h3, if_neg h4, if_neg h5, if_pos ⟨h6, h7⟩]; exact ⟨rfl, rfl⟩
   · refine (rf_enter_dir h d x s hd hx h1' h2' h3' h4 h5 h6 h7).mono ?_
     rintro e w' ⟨rfl, v, hrf, hmo⟩
     refine ⟨0, rfl, _, IT.entT T d.toNat x.toNat (bs s) n m, hmo, hrf, ?_, ?_⟩
     · have hne : d.toNat ≠ x.toNat := fun e => h7 (by rw [e]; exact .self)
       have h1t := h.ties.par hx h6 d.toNat
       have e1 : IT.under d.toNat m = { m with parent := d.toNat } := by unfold IT.under; rw [if_pos h6]
       unfold IT.entT
       rw [e1]
       exact h1t.more (by rw [IT.uX _ _ hne]; exact hd) s v
     · dsimp only; rw [hE, if_neg h1, if_neg h2, if_neg h3, if_neg h4, if_neg h5, if_neg (fun e => h7 e.2)]; exact ⟨rfl, rfl⟩
 · refine (rf_enter_file h d x s hd hx h1' h2' h3' h4 h5 h6).mono ?_
   rintro e w' ⟨rfl, v, hrf, hmo⟩
   refine ⟨0, rfl, _, IT.entT T d.toNat x.toNat (bs s) n m, hmo, hrf, ?_, ?_⟩
   · have e1 : IT.under d.toNat m = m := by unfold IT.under; rw [if_neg h6]
     unfold IT.entT
     rw [e1, upd_self hx]
     exact h.ties.more hd s v
   · dsimp only; rw [hE, if_neg h1, if_neg h2, if_neg h3, if_neg h4, if_neg h5, if_neg (fun e => h6 e.1)]; exact ⟨rfl, rfl⟩
end Go.Proofs.YtafonmnfeibaiaaGreat.RF
namespace Go.Proofs.YtafonmnfeibaiaaGreat.RF
open Go.RowKit
theorem less_perm {E : List (ByteArray × Nat)} {l : List (IT.Bytes × Nat)} (ho : IT.Ord l) (hp : (ents E).Perm l) {i x : Nat} {s : ByteArray} (hi : E[i]? = some (s, x)) (hf : IT.findN (bs s) l = some x) : (ents (E.take i ++ E.drop (i + 1))).Perm (IT.delN (bs s) l) := by
 have h1 : (ents E).Perm ((bs s, x) :: ents (E.take i ++ E.drop (i + 1))) := by
  have e : E = E.take i ++ (s, x) :: E.drop (i + 1) := by
   obtain ⟨hl, hg⟩ := List.getElem?_eq_some_iff.1 hi
   rw [← hg, ← List.drop_eq_getElem_cons hl, List.take_append_drop]
  have e2 : ents E = ents (E.take i) ++ (bs s, x) :: ents (E.drop (i + 1)) := by
   conv => lhs; rw [e]
   unfold ents; rw [List.map_append]; rfl
  have e3 : ents (E.take i ++ E.drop (i + 1)) = ents (E.take i) ++ ents (E.drop (i + 1)) := by unfold ents; rw [List.map_append]
  rw [e2, e3]
  exact List.perm_middle
 exact List.Perm.cons_inv ((h1.symm.trans hp).trans (IT.del_perm ho hf))
theorem Tie.less {G : Gt} {T : IT.Tr} (h : Tie G T) (hs : IT.Sound0 okN T) {d i x : Nat} {n : IT.Nd} (hd : T d = some n) (s : ByteArray) (v : Value) (hi : (G d).ents[i]? = some (s, x)) (hf : IT.findN (bs s) n.names = some x) : Tie (updG G d { G d with sl := v, ents := (G d).ents.take i ++ (G d).ents.drop (i + 1) }) (IT.upd T d (some { n with names := IT.delN (bs s) n.names })) := by
 have hk := h.sok d n hd
 exact h.set d ⟨hk.is, hk.kind, hk.mode, hk.owner, hk.group, hk.tty, hk.holds, hk.parent, hk.data, less_perm (hs.ord d n hd) hk.names hi hf⟩
theorem upd_comm (T : IT.Tr) {a b : Nat} (h : a ≠ b) (x y : Option IT.Nd) : IT.upd (IT.upd T a x) b y = IT.upd (IT.upd T b y) a x := by
 funext j
 unfold IT.upd
 by_cases e1 : j = a
 · subst e1; rw [if_neg h, if_pos rfl, if_pos rfl]
 · by_cases e2 : j = b
   · rw [if_pos e2, if_neg e1, if_pos e2]
   · rw [if_neg e2, if_neg e1, if_neg e1, if_neg e2]
theorem rf_remove_no {w : World} {t B : Nat} {G : Gt} {T : IT.Tr} (h : Trf w t B G T) (d : Int) (s : ByteArray) (hn : T d.toNat = none) :
  Calls Tryz.prog 99 #[.pointer (some ⟨t, 0, none⟩), .int .i64 d, .string s] w fun e w' => e = .returned (.int .i64 3) ∧ w = w' := by
 have HI1 := Hd (rf_is_no h d hn)
 clear h hn
 go_enter Tryz.func99, Tryz.ntmps99
 go_wp2_with fail
 refine HI1.out.mono ?_
 rintro e wz ⟨rfl, rfl⟩
 go_wp2
 all_goals go_ret
 all_goals exact ⟨rfl, rfl⟩
theorem rf_remove_nodir {w : World} {t B : Nat} {G : Gt} {T : IT.Tr} (h : Trf w t B G T) (d : Int) (s : ByteArray) {n : IT.Nd} (hd : T d.toNat = some n) (hk : n.kind ≠ 1) :
  Calls Tryz.prog 99 #[.pointer (some ⟨t, 0, none⟩), .int .i64 d, .string s] w fun e w' => e = .returned (.int .i64 6) ∧ w = w' := by
 have HI1 := Hd (rY h d hd)
 obtain ⟨kd, rfl, hd1, hd2, hdk⟩ := h.nat hd
 have c0 := h.rep.cellT
 have b1 := h.rep.c1 kd hd2
 rw [(h.ties.sok kd n hdk).kind] at b1
 have z1 : (n.kind == 1) = false := by simpa using hk
 clear h hd hdk hk
 go_enter Tryz.func99, Tryz.ntmps99
 go_wp2_with fail
 refine HI1.out.mono ?_
 rintro e wz ⟨rfl, rfl⟩
 go_wp2
 all_goals go_ret
 all_goals exact ⟨rfl, rfl⟩
theorem rf_remove_none {w : World} {t B : Nat} {G : Gt} {T : IT.Tr} (h : Trf w t B G T) (d : Int) (s : ByteArray) {n : IT.Nd} (hd : T d.toNat = some n) (hk : n.kind = 1) (hf : IT.findN (bs s) n.names = none) :
  Calls Tryz.prog 99 #[.pointer (some ⟨t, 0, none⟩), .int .i64 d, .string s] w fun e w' => e = .returned (.int .i64 3) ∧ w = w' := by
 have HI1 := Hd (rY h d hd)
 obtain ⟨kd, rfl, hd1, hd2, hdk⟩ := h.nat hd
 have c0 := h.rep.cellT
 have b1 := h.rep.c1 kd hd2
 rw [(h.ties.sok kd n hdk).kind] at b1
 rw [hk] at b1
 have hfn := ((h.ties.find h.snd.1 hdk s).resolve_right (fun ⟨i, y, e, _⟩ => by rw [hf] at e; cases e)).2
 have HA := Hd (rf_at_none h.rep kd hd2 s hfn)
 clear h hd hdk hk hf hfn
 go_enter Tryz.func99, Tryz.ntmps99
 go_wp2_with fail
 refine HI1.out.mono ?_
 rintro e wz ⟨rfl, rfl⟩
 go_wp2_with fail
 refine HA.out.mono ?_
 rintro e wz ⟨rfl, rfl⟩
 go_wp2
 all_goals go_ret
 all_goals exact ⟨rfl, rfl⟩
theorem rf_remove_busy {w : World} {t B : Nat} {G : Gt} {T : IT.Tr} (h : Trf w t B G T) (d : Int) (s : ByteArray) {n : IT.Nd} (hd : T d.toNat = some n) {kx i : Nat} {m : IT.Nd} (hk : n.kind = 1) (hf : IT.findN (bs s) n.names = some kx) (hx : T kx = some m) (hi : (G d.toNat).ents[i]? = some (s, kx)) (hi2 : ∀ (j : Nat) (p : ByteArray × Nat), j < i → (G d.toNat).ents[j]? = some p → p.1 ≠ s) (hm : m.names ≠ []) :
  Calls Tryz.prog 99 #[.pointer (some ⟨t, 0, none⟩), .int .i64 d, .string s] w fun e w' => e = .returned (.int .i64 8) ∧ w = w' := by
 have HI1 := Hd (rY h d hd)
 obtain ⟨kd, rfl, hd1, hd2, hdk⟩ := h.nat hd
 rw [Int.toNat_natCast] at hi hi2
 have c0 := h.rep.cellT
 have b1 := h.rep.c1 kd hd2
 rw [(h.ties.sok kd n hdk).kind] at b1
 rw [hk] at b1
 have HA := Hd (rf_at_some h.rep kd hd2 s hi hi2)
 have b9 := h.rep.c9 kd hd2
 obtain ⟨a, cap, hs, hl1, hl2, hl3⟩ := (h.rep.ents kd hd2).lit
 rw [hs] at b9
 obtain ⟨g, rfl, f1, f2⟩ := hl3 i _ hi
 have hil : i < (G kd).ents.length := (List.getElem?_eq_some_iff.1 hi).1
 have hl40 : (G kd).ents.length ≤ 40 := h.ties.few h.snd.1 kd hd2
 have hx1 := (h.snd.1.rng kx m hx).1
 have hx2 := (h.snd.1.rng kx m hx).2
 have x9 := h.rep.c9 kx hx2
 obtain ⟨ax, capx, hsx, _, _, _⟩ := (h.rep.ents kx hx2).lit
 rw [hsx] at x9
 have hlx : (G kx).ents.length = m.names.length := by have := (h.ties.sok kx m hx).names.length_eq; unfold ents at this; rw [List.length_map] at this; exact this
 have hlx40 : (G kx).ents.length ≤ 40 := h.ties.few h.snd.1 kx hx2
 have hlx0 : (0 : Int) < (G kx).ents.length := by
  have : 0 < m.names.length := List.length_pos_iff.2 hm
  omega
 generalize (G kd).ents.length = L at *
 generalize (G kx).ents.length = Lx at *
 clear h hd hdk hk hf hx hi hi2 hl1 hl2 hl3 hs f1 hsx hlx hm
 go_enter Tryz.func99, Tryz.ntmps99
 go_wp2_with fail
 refine HI1.out.mono ?_
 rintro e wz ⟨rfl, rfl⟩
 go_wp2_with fail
 refine HA.out.mono ?_
 rintro e wz ⟨rfl, rfl⟩
 go_wp2
 all_goals go_ret
 all_goals exact ⟨rfl, rfl⟩
theorem rf_remove_file {w : World} {t B : Nat} {G : Gt} {T : IT.Tr} (h : Trf w t B G T) (d : Int) (s : ByteArray) {n : IT.Nd} (hd : T d.toNat = some n) {kx i : Nat} {m : IT.Nd} (hk : n.kind = 1) (hf : IT.findN (bs s) n.names = some kx) (hx : T kx = some m) (hi : (G d.toNat).ents[i]? = some (s, kx)) (hi2 : ∀ (j : Nat) (p : ByteArray × Nat), j < i → (G d.toNat).ents[j]? = some p → p.1 ≠ s) (hm : m.names = []) (hmk : m.kind ≠ 1) :
  Calls Tryz.prog 99 #[.pointer (some ⟨t, 0, none⟩), .int .i64 d, .string s] w fun e w' => e = .returned (.int .i64 0) ∧ Stf w t B (fun T' => IT.isRemove T d.toNat (bs s) 0 T') w' := by
 have HM := Hd hm
 have HI1 := Hd (rY h d hd)
 obtain ⟨kd, rfl, hd1, hd2, hdk⟩ := h.nat hd
 rw [Int.toNat_natCast] at hi hi2
 have c0 := h.rep.cellT
 have b1 := h.rep.c1 kd hd2
 rw [(h.ties.sok kd n hdk).kind] at b1
 rw [hk] at b1
 have HA := Hd (rf_at_some h.rep kd hd2 s hi hi2)
 have b9 := h.rep.c9 kd hd2
 obtain ⟨a, cap, hs, hl1, hl2, hl3⟩ := (h.rep.ents kd hd2).lit
 rw [hs] at b9
 obtain ⟨g, rfl, f1, f2⟩ := hl3 i _ hi
 have hil : i < (G kd).ents.length := (List.getElem?_eq_some_iff.1 hi).1
 have hl40 : (G kd).ents.length ≤ 40 := h.ties.few h.snd.1 kd hd2
 have hx1 := (h.snd.1.rng kx m hx).1
 have hx2 := (h.snd.1.rng kx m hx).2
 have x9 := h.rep.c9 kx hx2
 obtain ⟨ax, capx, hsx, _, _, _⟩ := (h.rep.ents kx hx2).lit
 rw [hsx] at x9
 have hlx : (G kx).ents.length = m.names.length := by have := (h.ties.sok kx m hx).names.length_eq; unfold ents at this; rw [List.length_map] at this; exact this
 have hlx40 : (G kx).ents.length ≤ 40 := h.ties.few h.snd.1 kx hx2
 have hne : kx ≠ kd := h.snd.1.apart hdk hx hf
 have hw := rf_without h.rep kd i hd2 hil hl40
 have x1 := h.rep.c1 kx hx2
 rw [(h.ties.sok kx m hx).kind] at x1
 have hlx0 : (G kx).ents.length = 0 := by rw [hlx, hm]; rfl
 rw [hlx0] at x9
 have HW := Hd hw
 have HD := Hd hdk
 have HX := Hd hx
 have HF := Hd hf
 have HT := Hd h
 have HII := Hd hi
 have HNE := Hd hne
 have HK := Hd hk
 generalize (G kd).ents.length = L at *
 clear hw hlx hlx0 hlx40 hm hsx
 have z2 : (m.kind == 1) = false := by simpa using hmk
 have HMK := Hd hmk
 clear h hd hdk hk hf hx hi hi2 hl1 hl2 hl3 hs f1 hmk hne
 go_enter Tryz.func99, Tryz.ntmps99
 go_wp2_with fail
 refine HI1.out.mono ?_
 rintro e wz ⟨rfl, rfl⟩
 go_wp2_with fail
 refine HA.out.mono ?_
 rintro e wz ⟨rfl, rfl⟩
 go_wp2_with fail
 refine HW.out.mono ?_
 rintro e w1 ⟨rfl, v, hrf, hmo⟩
 clear c0 b1 b9 x9 x1 f2
 have x1 := hrf.c1 kx hx2
 rw [updG_other _ _ HNE.out, (HT.out.ties.sok kx m HX.out).kind] at x1
 have c0 := hrf.cellT
 have HRF := Hd hrf
 have HMO := Hd hmo
 have HTI : Hid (Tie (updG G kd { G kd with sl := v, ents := (G kd).ents.take i ++ (G kd).ents.drop (i + 1) }) (IT.delT T kd kx (bs s) n m)) := Hd (by
  have := HT.out.ties.less HT.out.snd.1 HD.out s v HII.out HF.out
  unfold IT.delT
  rw [show IT.alone kx m = m from by unfold IT.alone; rw [if_neg HMK.out], upd_self HX.out]
  exact this)
 clear hrf hmo
 go_wp2_with fail
 refine (rf_gone HRF.out HTI.out (HT.out.snd.1.del HD.out HX.out HF.out)).mono ?_
 rintro e w2 ⟨rfl, hs⟩
 have HS := Hd (Stf.pre HMO.out hs)
 clear hs
 go_wp2
 go_ret
 refine ⟨rfl, HS.out.imp fun T' hT' => ?_⟩
 unfold IT.isRemove
 rw [Int.toNat_natCast, HD.out]
 dsimp only
 rw [if_neg (fun hh => hh HK.out), HF.out]
 dsimp only
 refine ⟨m, HX.out, ?_⟩
 rw [if_neg (fun hh => hh HM.out)]
 exact ⟨rfl, hT'⟩
theorem rf_remove_dir {w : World} {t B : Nat} {G : Gt} {T : IT.Tr} (h : Trf w t B G T) (d : Int) (s : ByteArray) {n : IT.Nd} (hd : T d.toNat = some n) {kx i : Nat} {m : IT.Nd} (hk : n.kind = 1) (hf : IT.findN (bs s) n.names = some kx) (hx : T kx = some m) (hi : (G d.toNat).ents[i]? = some (s, kx)) (hi2 : ∀ (j : Nat) (p : ByteArray × Nat), j < i → (G d.toNat).ents[j]? = some p → p.1 ≠ s) (hm : m.names = []) (hmk : m.kind = 1) :
  Calls Tryz.prog 99 #[.pointer (some ⟨t, 0, none⟩), .int .i64 d, .string s] w fun e w' => e = .returned (.int .i64 0) ∧ Stf w t B (fun T' => IT.isRemove T d.toNat (bs s) 0 T') w' := by
 have HM := Hd hm
 have HI1 := Hd (rY h d hd)
 obtain ⟨kd, rfl, hd1, hd2, hdk⟩ := h.nat hd
 rw [Int.toNat_natCast] at hi hi2
 have c0 := h.rep.cellT
 have b1 := h.rep.c1 kd hd2
 rw [(h.ties.sok kd n hdk).kind] at b1
 rw [hk] at b1
 have HA := Hd (rf_at_some h.rep kd hd2 s hi hi2)
 have b9 := h.rep.c9 kd hd2
 obtain ⟨a, cap, hs, hl1, hl2, hl3⟩ := (h.rep.ents kd hd2).lit
 rw [hs] at b9
 obtain ⟨g, rfl, f1, f2⟩ := hl3 i _ hi
 have hil : i < (G kd).ents.length := (List.getElem?_eq_some_iff.1 hi).1
 have hl40 : (G kd).ents.length ≤ 40 := h.ties.few h.snd.1 kd hd2
 have hx1 := (h.snd.1.rng kx m hx).1
 have hx2 := (h.snd.1.rng kx m hx).2
 have x9 := h.rep.c9 kx hx2
 obtain ⟨ax, capx, hsx, _, _, _⟩ := (h.rep.ents kx hx2).lit
 rw [hsx] at x9
 have hlx : (G kx).ents.length = m.names.length := by have := (h.ties.sok kx m hx).names.length_eq; unfold ents at this; rw [List.length_map] at this; exact this
 have hlx40 : (G kx).ents.length ≤ 40 := h.ties.few h.snd.1 kx hx2
 have hne : kx ≠ kd := h.snd.1.apart hdk hx hf
 have hw := rf_without h.rep kd i hd2 hil hl40
 have x1 := h.rep.c1 kx hx2
 rw [(h.ties.sok kx m hx).kind] at x1
 have hlx0 : (G kx).ents.length = 0 := by rw [hlx, hm]; rfl
 rw [hlx0] at x9
 have HW := Hd hw
 have HD := Hd hdk
 have HX := Hd hx
 have HF := Hd hf
 have HT := Hd h
 have HII := Hd hi
 have HNE := Hd hne
 have HK := Hd hk
 generalize (G kd).ents.length = L at *
 clear hw hlx hlx0 hlx40 hm hsx
 rw [hmk] at x1
 have HMK := Hd hmk
 clear h hd hdk hk hf hx hi hi2 hl1 hl2 hl3 hs f1 hmk hne
 go_enter Tryz.func99, Tryz.ntmps99
 go_wp2_with fail
 refine HI1.out.mono ?_
 rintro e wz ⟨rfl, rfl⟩
 go_wp2_with fail
 refine HA.out.mono ?_
 rintro e wz ⟨rfl, rfl⟩
 go_wp2_with fail
 refine HW.out.mono ?_
 rintro e w1 ⟨rfl, v, hrf, hmo⟩
 clear c0 b1 b9 x9 x1 f2
 have x1 := hrf.c1 kx hx2
 rw [updG_other _ _ HNE.out, (HT.out.ties.sok kx m HX.out).kind, HMK.out] at x1
 have c0 := hrf.cellT
 have s7 := hrf.frozen (kx * 10 + 7)
 have x7 := hrf.c7 kx hx2
 obtain ⟨G1, hG1⟩ : ∃ G1, updG G kd { G kd with sl := v, ents := (G kd).ents.take i ++ (G kd).ents.drop (i + 1) } = G1 := ⟨_, rfl⟩
 have ht1 := HT.out.ties.less HT.out.snd.1 HD.out s v HII.out HF.out
 rw [hG1] at hrf ht1
 have hx3 : (IT.upd T kd (some { n with names := IT.delN (bs s) n.names })) kx = some m := by rw [IT.uX _ _ HNE.out]; exact HX.out
 have HRF := Hd (hrf.set hx2 (show 7 < 10 by omega) (.int .i64 (kx : Int)) { G1 kx with parent := (kx : Int) } rfl (hrf.ents kx hx2))
 have HMO := Hd (hmo.set (i := kx * 10 + 7) (.int .i64 (kx : Int)))
 have HTI : Hid (Tie (updG G1 kx { G1 kx with parent := (kx : Int) }) (IT.delT T kd kx (bs s) n m)) := Hd (by
  have := ht1.par hx3 HMK.out kx
  unfold IT.delT
  rw [show IT.alone kx m = { m with parent := kx } from by unfold IT.alone; rw [if_pos HMK.out], upd_comm T HNE.out]
  exact this)
 clear hrf hmo ht1 hG1 hx3
 go_wp2_with fail
 refine (rf_gone HRF.out HTI.out (HT.out.snd.1.del HD.out HX.out HF.out)).mono ?_
 rintro e w2 ⟨rfl, hs⟩
 have HS := Hd (Stf.pre HMO.out hs)
 clear hs
 go_wp2
 go_ret
 refine ⟨rfl, HS.out.imp fun T' hT' => ?_⟩
 unfold IT.isRemove
 rw [Int.toNat_natCast, HD.out]
 dsimp only
 rw [if_neg (fun hh => hh HK.out), HF.out]
 dsimp only
 refine ⟨m, HX.out, ?_⟩
 rw [if_neg (fun hh => hh HM.out)]
 exact ⟨rfl, hT'⟩
theorem rf_remove {w : World} {t B : Nat} {G : Gt} {T : IT.Tr} (h : Trf w t B G T) (d : Int) (s : ByteArray) :
  Calls Tryz.prog 99 #[.pointer (some ⟨t, 0, none⟩), .int .i64 d, .string s] w fun e w' => ∃ r, e = .returned (.int .i64 r) ∧ Stf w t B (fun T' => IT.isRemove T d.toNat (bs s) r T') w' := by
 have hstay : ∀ {r : Int} {e : Ending} {w' : World}, IT.isRemove T d.toNat (bs s) r T → e = .returned (.int .i64 r) ∧ w = w' → ∃ r, e = .returned (.int .i64 r) ∧ Stf w t B (fun T' => IT.isRemove T d.toNat (bs s) r T') w' := by
  rintro r e w' hr ⟨rfl, rfl⟩
  exact ⟨r, rfl, Stf.keep h (Below.refl _ _) hr⟩
 cases hd : T d.toNat with
 | none =>
   refine (rf_remove_no h d s hd).mono fun e w' => hstay ?_
   unfold IT.isRemove; rw [hd]; exact ⟨rfl, rfl⟩
 | some n =>
 by_cases h1 : n.kind = 1
 · rcases h.ties.find h.snd.1 hd s with ⟨g1, g2⟩ | ⟨i, x, g1, g2, g3⟩
   · refine (rf_remove_none h d s hd h1 g1).mono fun e w' => hstay ?_
     unfold IT.isRemove; rw [hd]; dsimp only; rw [if_neg (fun hh => hh h1), g1]; exact ⟨rfl, rfl⟩
   · obtain ⟨m, hm⟩ := (h.ties.lead h.snd.1 hd (List.mem_of_getElem? g2)).2
     by_cases h2 : m.names = []
     · by_cases h3 : m.kind = 1
       · exact (rf_remove_dir h d s hd h1 g1 hm g2 g3 h2 h3).mono fun e w' hh => ⟨0, hh⟩
       · exact (rf_remove_file h d s hd h1 g1 hm g2 g3 h2 h3).mono fun e w' hh => ⟨0, hh⟩
     · refine (rf_remove_busy h d s hd h1 g1 hm g2 g3 h2).mono fun e w' => hstay ?_
       unfold IT.isRemove; rw [hd]; dsimp only; rw [if_neg (fun hh => hh h1), g1]; dsimp only
       refine ⟨m, hm, ?_⟩
       rw [if_pos h2]; exact ⟨rfl, rfl⟩
 · refine (rf_remove_nodir h d s hd h1).mono fun e w' => hstay ?_
   unfold IT.isRemove; rw [hd]; dsimp only; rw [if_pos h1]; exact ⟨rfl, rfl⟩
theorem rf_move_no {w : World} {t B : Nat} {G : Gt} {T : IT.Tr} (h : Trf w t B G T) (d b : Int) (s sa : ByteArray) (hn : T d.toNat = none ∨ T b.toNat = none) :
  Calls Tryz.prog 101 #[.pointer (some ⟨t, 0, none⟩), .int .i64 d, .string s, .int .i64 b, .string sa] w fun e w' => e = .returned (.int .i64 3) ∧ w = w' := by
 cases hd : T d.toNat with
 | none =>
   have HI1 := Hd (rf_is_no h d hd)
   have HI2 := Hd (rf_is h.rep b)
   generalize isB G b = q at *
   clear h hd hn
   go_enter Tryz.func101, Tryz.ntmps101
   go_wp2_with fail
   refine HI1.out.mono ?_
   rintro e wz ⟨rfl, rfl⟩
   go_wp2_with fail
   refine HI2.out.mono ?_
   rintro e wz ⟨rfl, rfl⟩
   go_wp2
   all_goals go_ret
   all_goals exact ⟨rfl, rfl⟩
 | some n =>
   have hx : T b.toNat = none := hn.resolve_left (fun e => by rw [hd] at e; cases e)
   have HI1 := Hd (rY h d hd)
   have HI2 := Hd (rf_is_no h b hx)
   clear h hd hn hx
   go_enter Tryz.func101, Tryz.ntmps101
   go_wp2_with fail
   refine HI1.out.mono ?_
   rintro e wz ⟨rfl, rfl⟩
   go_wp2_with fail
   refine HI2.out.mono ?_
   rintro e wz ⟨rfl, rfl⟩
   go_wp2
   all_goals go_ret
   all_goals exact ⟨rfl, rfl⟩
theorem rf_move_nodir {w : World} {t B : Nat} {G : Gt} {T : IT.Tr} (h : Trf w t B G T) {kd kb : Nat} (s sa : ByteArray) {n q : IT.Nd} (hd : T kd = some n) (hq : T kb = some q) (hk : n.kind ≠ 1 ∨ q.kind ≠ 1) :
  Calls Tryz.prog 101 #[.pointer (some ⟨t, 0, none⟩), .int .i64 (kd : Int), .string s, .int .i64 (kb : Int), .string sa] w fun e w' => e = .returned (.int .i64 6) ∧ w = w' := by
 have HI1 := Hd (rY h (kd : Int) hd)
 have HI2 := Hd (rY h (kb : Int) hq)
 obtain ⟨hd1, hd2⟩ := h.snd.1.rng kd n hd
 obtain ⟨hb1, hb2⟩ := h.snd.1.rng kb q hq
 have c0 := h.rep.cellT
 have b1 := h.rep.c1 kd hd2
 rw [(h.ties.sok kd n hd).kind] at b1
 have y1 := h.rep.c1 kb hb2
 rw [(h.ties.sok kb q hq).kind] at y1
 by_cases hk1 : n.kind = 1
 · rw [hk1] at b1
   have z1 : (q.kind == 1) = false := by simpa using hk.resolve_left (fun e => e hk1)
   clear h hd hq hk hk1
   go_enter Tryz.func101, Tryz.ntmps101
   go_wp2_with fail
   refine HI1.out.mono ?_
   rintro e wz ⟨rfl, rfl⟩
   go_wp2_with fail
   refine HI2.out.mono ?_
   rintro e wz ⟨rfl, rfl⟩
   go_wp2
   all_goals go_ret
   all_goals exact ⟨rfl, rfl⟩
 · have z1 : (n.kind == 1) = false := by simpa using hk1
   clear h hd hq hk hk1
   go_enter Tryz.func101, Tryz.ntmps101
   go_wp2_with fail
   refine HI1.out.mono ?_
   rintro e wz ⟨rfl, rfl⟩
   go_wp2_with fail
   refine HI2.out.mono ?_
   rintro e wz ⟨rfl, rfl⟩
   go_wp2
   all_goals go_ret
   all_goals exact ⟨rfl, rfl⟩
theorem rf_move_none {w : World} {t B : Nat} {G : Gt} {T : IT.Tr} (h : Trf w t B G T) {kd kb : Nat} (s sa : ByteArray) {n q : IT.Nd} (hd : T kd = some n) (hq : T kb = some q) (hk : n.kind = 1) (hkb : q.kind = 1) (hf : IT.findN (bs s) n.names = none) :
  Calls Tryz.prog 101 #[.pointer (some ⟨t, 0, none⟩), .int .i64 (kd : Int), .string s, .int .i64 (kb : Int), .string sa] w fun e w' => e = .returned (.int .i64 3) ∧ w = w' := by
 have HI1 := Hd (rY h (kd : Int) hd)
 have HI2 := Hd (rY h (kb : Int) hq)
 obtain ⟨hd1, hd2⟩ := h.snd.1.rng kd n hd
 obtain ⟨hb1, hb2⟩ := h.snd.1.rng kb q hq
 have c0 := h.rep.cellT
 have b1 := h.rep.c1 kd hd2
 rw [(h.ties.sok kd n hd).kind] at b1
 have y1 := h.rep.c1 kb hb2
 rw [(h.ties.sok kb q hq).kind] at y1
 rw [hk] at b1
 rw [hkb] at y1
 have HA := Hd (rf_at_none h.rep kd hd2 s ((h.ties.find h.snd.1 hd s).resolve_right (fun ⟨i, y, e, _⟩ => by rw [hf] at e; cases e)).2)
 clear h hd hq hk hkb hf
 go_enter Tryz.func101, Tryz.ntmps101
 go_wp2_with fail
 refine HI1.out.mono ?_
 rintro e wz ⟨rfl, rfl⟩
 go_wp2_with fail
 refine HI2.out.mono ?_
 rintro e wz ⟨rfl, rfl⟩
 go_wp2_with fail
 refine HA.out.mono ?_
 rintro e wz ⟨rfl, rfl⟩
 go_wp2
 all_goals go_ret
 all_goals exact ⟨rfl, rfl⟩
theorem rf_move_name {w : World} {t B : Nat} {G : Gt} {T : IT.Tr} (h : Trf w t B G T) {kd kb : Nat} (s sa : ByteArray) {n q : IT.Nd} (hd : T kd = some n) (hq : T kb = some q) (hk : n.kind = 1) (hkb : q.kind = 1) {kx i : Nat} {m : IT.Nd} (hf : IT.findN (bs s) n.names = some kx) (hx : T kx = some m) (hi : (G kd).ents[i]? = some (s, kx)) (hi2 : ∀ (j : Nat) (p : ByteArray × Nat), j < i → (G kd).ents[j]? = some p → p.1 ≠ s) (hok : okN (bs sa) = false) :
  Calls Tryz.prog 101 #[.pointer (some ⟨t, 0, none⟩), .int .i64 (kd : Int), .string s, .int .i64 (kb : Int), .string sa] w fun e w' => e = .returned (.int .i64 1) ∧ w = w' := by
 have HI1 := Hd (rY h (kd : Int) hd)
 have HI2 := Hd (rY h (kb : Int) hq)
 obtain ⟨hd1, hd2⟩ := h.snd.1.rng kd n hd
 obtain ⟨hb1, hb2⟩ := h.snd.1.rng kb q hq
 have c0 := h.rep.cellT
 have b1 := h.rep.c1 kd hd2
 rw [(h.ties.sok kd n hd).kind] at b1
 have y1 := h.rep.c1 kb hb2
 rw [(h.ties.sok kb q hq).kind] at y1
 rw [hk] at b1
 rw [hkb] at y1
 obtain ⟨hx1, hx2⟩ := h.snd.1.rng kx m hx
 have HA := Hd (rf_at_some h.rep kd hd2 s hi hi2)
 have HN := Hd (rname_ok sa w)
 rw [hok] at HN
 have HF := Hd hf
 clear h hd hq hk hkb hf hx hi hi2 hok HF
 go_enter Tryz.func101, Tryz.ntmps101
 go_wp2_with fail
 refine HI1.out.mono ?_
 rintro e wz ⟨rfl, rfl⟩
 go_wp2_with fail
 refine HI2.out.mono ?_
 rintro e wz ⟨rfl, rfl⟩
 go_wp2_with fail
 refine HA.out.mono ?_
 rintro e wz ⟨rfl, rfl⟩
 go_wp2_with fail
 refine HN.out.mono ?_
 rintro e wz ⟨rfl, rfl⟩
 go_wp2
 all_goals go_ret
 all_goals exact ⟨rfl, rfl⟩
theorem rf_move_busy {w : World} {t B : Nat} {G : Gt} {T : IT.Tr} (h : Trf w t B G T) {kd kb : Nat} (s sa : ByteArray) {n q : IT.Nd} (hd : T kd = some n) (hq : T kb = some q) (hk : n.kind = 1) (hkb : q.kind = 1) {kx i : Nat} {m : IT.Nd} (hf : IT.findN (bs s) n.names = some kx) (hx : T kx = some m) (hi : (G kd).ents[i]? = some (s, kx)) (hi2 : ∀ (j : Nat) (p : ByteArray × Nat), j < i → (G kd).ents[j]? = some p → p.1 ≠ s) (hok : okN (bs sa) = true) (hmk : m.kind = 1) (hbe : IT.Bel T kx kb) :
  Calls Tryz.prog 101 #[.pointer (some ⟨t, 0, none⟩), .int .i64 (kd : Int), .string s, .int .i64 (kb : Int), .string sa] w fun e w' => e = .returned (.int .i64 8) ∧ w = w' := by
 have HI1 := Hd (rY h (kd : Int) hd)
 have HI2 := Hd (rY h (kb : Int) hq)
 obtain ⟨hd1, hd2⟩ := h.snd.1.rng kd n hd
 obtain ⟨hb1, hb2⟩ := h.snd.1.rng kb q hq
 have c0 := h.rep.cellT
 have b1 := h.rep.c1 kd hd2
 rw [(h.ties.sok kd n hd).kind] at b1
 have y1 := h.rep.c1 kb hb2
 rw [(h.ties.sok kb q hq).kind] at y1
 rw [hk] at b1
 rw [hkb] at y1
 obtain ⟨hx1, hx2⟩ := h.snd.1.rng kx m hx
 have HA := Hd (rf_at_some h.rep kd hd2 s hi hi2)
 have HN := Hd (rname_ok sa w)
 rw [hok] at HN
 have b9 := h.rep.c9 kd hd2
 obtain ⟨a, cap, hs, hl1, hl2, hl3⟩ := (h.rep.ents kd hd2).lit
 rw [hs] at b9
 obtain ⟨g, rfl, f1, f2⟩ := hl3 i _ hi
 have hil : i < (G kd).ents.length := (List.getElem?_eq_some_iff.1 hi).1
 have hl40 : (G kd).ents.length ≤ 40 := h.ties.few h.snd.1 kd hd2
 have x1 := h.rep.c1 kx hx2
 rw [(h.ties.sok kx m hx).kind] at x1
 rw [hmk] at x1
 have HF := Hd hf
 have HWI : Hid (Calls Tryz.prog 124 #[.pointer (some ⟨t, 0, none⟩), .int .i64 (kb : Int), .int .i64 (kx : Int)] w fun e w' => e = .returned (.bool true) ∧ w = w') := Hd ((rf_within h kb kx hq hkb).mono (by
  rintro e w' ⟨c, rfl, hc, rfl⟩
  rw [hc.2 hbe]
  exact ⟨rfl, rfl⟩))
 generalize (G kd).ents.length = L at *
 clear h hd hq hk hkb hf hx hi hi2 hok hl1 hl2 hl3 hs f1 hmk hbe HF
 go_enter Tryz.func101, Tryz.ntmps101
 go_wp2_with fail
 refine HI1.out.mono ?_
 rintro e wz ⟨rfl, rfl⟩
 go_wp2_with fail
 refine HI2.out.mono ?_
 rintro e wz ⟨rfl, rfl⟩
 go_wp2_with fail
 refine HA.out.mono ?_
 rintro e wz ⟨rfl, rfl⟩
 go_wp2_with fail
 refine HN.out.mono ?_
 rintro e wz ⟨rfl, rfl⟩
 go_wp2_with fail
 refine HWI.out.mono ?_
 rintro e wz ⟨rfl, rfl⟩
 go_wp2
 all_goals go_ret
 all_goals exact ⟨rfl, rfl⟩
theorem rf_move_full {w : World} {t B : Nat} {G : Gt} {T : IT.Tr} (h : Trf w t B G T) {kd kb : Nat} (s sa : ByteArray) {n q : IT.Nd} (hd : T kd = some n) (hq : T kb = some q) (hk : n.kind = 1) (hkb : q.kind = 1) {kx i : Nat} {m : IT.Nd} (hf : IT.findN (bs s) n.names = some kx) (hx : T kx = some m) (hi : (G kd).ents[i]? = some (s, kx)) (hi2 : ∀ (j : Nat) (p : ByteArray × Nat), j < i → (G kd).ents[j]? = some p → p.1 ≠ s) (hok : okN (bs sa) = true) (hbe : ¬ (m.kind = 1 ∧ IT.Bel T kx kb)) (hfa : IT.findN (bs sa) q.names = none) (hne : kd ≠ kb) (h40 : q.names.length ≥ 40) :
  Calls Tryz.prog 101 #[.pointer (some ⟨t, 0, none⟩), .int .i64 (kd : Int), .string s, .int .i64 (kb : Int), .string sa] w fun e w' => e = .returned (.int .i64 9) ∧ w = w' := by
 have HI1 := Hd (rY h (kd : Int) hd)
 have HI2 := Hd (rY h (kb : Int) hq)
 obtain ⟨hd1, hd2⟩ := h.snd.1.rng kd n hd
 obtain ⟨hb1, hb2⟩ := h.snd.1.rng kb q hq
 have c0 := h.rep.cellT
 have b1 := h.rep.c1 kd hd2
 rw [(h.ties.sok kd n hd).kind] at b1
 have y1 := h.rep.c1 kb hb2
 rw [(h.ties.sok kb q hq).kind] at y1
 rw [hk] at b1
 rw [hkb] at y1
 obtain ⟨hx1, hx2⟩ := h.snd.1.rng kx m hx
 have HA := Hd (rf_at_some h.rep kd hd2 s hi hi2)
 have HN := Hd (rname_ok sa w)
 rw [hok] at HN
 have b9 := h.rep.c9 kd hd2
 obtain ⟨a, cap, hs, hl1, hl2, hl3⟩ := (h.rep.ents kd hd2).lit
 rw [hs] at b9
 obtain ⟨g, rfl, f1, f2⟩ := hl3 i _ hi
 have hil : i < (G kd).ents.length := (List.getElem?_eq_some_iff.1 hi).1
 have hl40 : (G kd).ents.length ≤ 40 := h.ties.few h.snd.1 kd hd2
 have x1 := h.rep.c1 kx hx2
 rw [(h.ties.sok kx m hx).kind] at x1
 have y9 := h.rep.c9 kb hb2
 obtain ⟨ay, capy, hsy, _, _, hl3y⟩ := (h.rep.ents kb hb2).lit
 rw [hsy] at y9
 have hly40 : (G kb).ents.length ≤ 40 := h.ties.few h.snd.1 kb hb2
 have hly : q.names.length = (G kb).ents.length := by have := (h.ties.sok kb q hq).names.length_eq; unfold ents at this; rw [List.length_map] at this; exact this.symm
 have HA2 := Hd (rf_at_none h.rep kb hb2 sa ((h.ties.find h.snd.1 hq sa).resolve_right (fun ⟨i, y, e, _⟩ => by rw [hfa] at e; cases e)).2)
 have hL1 : (40 : Int) ≤ (G kb).ents.length := by omega
 have z3 : ((kb : Int) == (kd : Int)) = false := by simpa using (show ¬ (kb : Int) = (kd : Int) by omega)
 have HF := Hd hf
 by_cases hmk : m.kind = 1
 · have hbe := fun hh => hbe ⟨hmk, hh⟩
   have HWI : Hid (Calls Tryz.prog 124 #[.pointer (some ⟨t, 0, none⟩), .int .i64 (kb : Int), .int .i64 (kx : Int)] w fun e w' => e = .returned (.bool false) ∧ w = w') := Hd ((rf_within h kb kx hq hkb).mono (by
    rintro e w' ⟨c, rfl, hc, rfl⟩
    cases c with
    | false => exact ⟨rfl, rfl⟩
    | true => exact absurd (hc.1 rfl) hbe))
   rw [hmk] at x1
   generalize (G kd).ents.length = L at *
   generalize (G kb).ents.length = Ly at *
   clear h hd hq hk hkb hf hx hi hi2 hok hl1 hl2 hl3 hs f1 hmk hbe hfa hne h40 hsy hl3y hly HF
   go_enter Tryz.func101, Tryz.ntmps101
   go_wp2_with fail
   refine HI1.out.mono ?_
   rintro e wz ⟨rfl, rfl⟩
   go_wp2_with fail
   refine HI2.out.mono ?_
   rintro e wz ⟨rfl, rfl⟩
   go_wp2_with fail
   refine HA.out.mono ?_
   rintro e wz ⟨rfl, rfl⟩
   go_wp2_with fail
   refine HN.out.mono ?_
   rintro e wz ⟨rfl, rfl⟩
   go_wp2_with fail
   refine HWI.out.mono ?_
   rintro e wz ⟨rfl, rfl⟩
   go_wp2_with fail
   refine HA2.out.mono ?_
   rintro e wz ⟨rfl, rfl⟩
   go_wp2
   all_goals go_ret
   all_goals exact ⟨rfl, rfl⟩
 · have z2 : (m.kind == 1) = false := by simpa using hmk
   generalize (G kd).ents.length = L at *
   generalize (G kb).ents.length = Ly at *
   clear h hd hq hk hkb hf hx hi hi2 hok hl1 hl2 hl3 hs f1 hmk hbe hfa hne h40 hsy hl3y hly HF
   go_enter Tryz.func101, Tryz.ntmps101
   go_wp2_with fail
   refine HI1.out.mono ?_
   rintro e wz ⟨rfl, rfl⟩
   go_wp2_with fail
   refine HI2.out.mono ?_
   rintro e wz ⟨rfl, rfl⟩
   go_wp2_with fail
   refine HA.out.mono ?_
   rintro e wz ⟨rfl, rfl⟩
   go_wp2_with fail
   refine HN.out.mono ?_
   rintro e wz ⟨rfl, rfl⟩
   go_wp2_with fail
   refine HA2.out.mono ?_
   rintro e wz ⟨rfl, rfl⟩
   go_wp2
   all_goals go_ret
   all_goals exact ⟨rfl, rfl⟩
theorem rf_move_same {w : World} {t B : Nat} {G : Gt} {T : IT.Tr} (h : Trf w t B G T) {kd kb : Nat} (s sa : ByteArray) {n q : IT.Nd} (hd : T kd = some n) (hq : T kb = some q) (hk : n.kind = 1) (hkb : q.kind = 1) {kx i : Nat} {m : IT.Nd} (hf : IT.findN (bs s) n.names = some kx) (hx : T kx = some m) (hi : (G kd).ents[i]? = some (s, kx)) (hi2 : ∀ (j : Nat) (p : ByteArray × Nat), j < i → (G kd).ents[j]? = some p → p.1 ≠ s) (hok : okN (bs sa) = true) (hbe : ¬ (m.kind = 1 ∧ IT.Bel T kx kb)) {j : Nat} (hfa : IT.findN (bs sa) q.names = some kx) (hj : (G kb).ents[j]? = some (sa, kx)) (hj2 : ∀ (l : Nat) (p : ByteArray × Nat), l < j → (G kb).ents[l]? = some p → p.1 ≠ sa) :
  Calls Tryz.prog 101 #[.pointer (some ⟨t, 0, none⟩), .int .i64 (kd : Int), .string s, .int .i64 (kb : Int), .string sa] w fun e w' => e = .returned (.int .i64 0) ∧ w = w' := by
 have HI1 := Hd (rY h (kd : Int) hd)
 have HI2 := Hd (rY h (kb : Int) hq)
 obtain ⟨hd1, hd2⟩ := h.snd.1.rng kd n hd
 obtain ⟨hb1, hb2⟩ := h.snd.1.rng kb q hq
 have c0 := h.rep.cellT
 have b1 := h.rep.c1 kd hd2
 rw [(h.ties.sok kd n hd).kind] at b1
 have y1 := h.rep.c1 kb hb2
 rw [(h.ties.sok kb q hq).kind] at y1
 rw [hk] at b1
 rw [hkb] at y1
 obtain ⟨hx1, hx2⟩ := h.snd.1.rng kx m hx
 have HA := Hd (rf_at_some h.rep kd hd2 s hi hi2)
 have HN := Hd (rname_ok sa w)
 rw [hok] at HN
 have b9 := h.rep.c9 kd hd2
 obtain ⟨a, cap, hs, hl1, hl2, hl3⟩ := (h.rep.ents kd hd2).lit
 rw [hs] at b9
 obtain ⟨g, rfl, f1, f2⟩ := hl3 i _ hi
 have hil : i < (G kd).ents.length := (List.getElem?_eq_some_iff.1 hi).1
 have hl40 : (G kd).ents.length ≤ 40 := h.ties.few h.snd.1 kd hd2
 have x1 := h.rep.c1 kx hx2
 rw [(h.ties.sok kx m hx).kind] at x1
 have y9 := h.rep.c9 kb hb2
 obtain ⟨ay, capy, hsy, _, _, hl3y⟩ := (h.rep.ents kb hb2).lit
 rw [hsy] at y9
 have hly40 : (G kb).ents.length ≤ 40 := h.ties.few h.snd.1 kb hb2
 have hly : q.names.length = (G kb).ents.length := by have := (h.ties.sok kb q hq).names.length_eq; unfold ents at this; rw [List.length_map] at this; exact this.symm
 have HA2 := Hd (rf_at_some h.rep kb hb2 sa hj hj2)
 obtain ⟨gy, rfl, f1y, f2y⟩ := hl3y j _ hj
 have hjl : j < (G kb).ents.length := (List.getElem?_eq_some_iff.1 hj).1
 have HF := Hd hf
 by_cases hmk : m.kind = 1
 · have hbe := fun hh => hbe ⟨hmk, hh⟩
   have HWI : Hid (Calls Tryz.prog 124 #[.pointer (some ⟨t, 0, none⟩), .int .i64 (kb : Int), .int .i64 (kx : Int)] w fun e w' => e = .returned (.bool false) ∧ w = w') := Hd ((rf_within h kb kx hq hkb).mono (by
    rintro e w' ⟨c, rfl, hc, rfl⟩
    cases c with
    | false => exact ⟨rfl, rfl⟩
    | true => exact absurd (hc.1 rfl) hbe))
   rw [hmk] at x1
   generalize (G kd).ents.length = L at *
   generalize (G kb).ents.length = Ly at *
   clear h hd hq hk hkb hf hx hi hi2 hok hl1 hl2 hl3 hs f1 hmk hbe hfa hj hj2 hsy hl3y hly f1y HF
   go_enter Tryz.func101, Tryz.ntmps101
   go_wp2_with fail
   refine HI1.out.mono ?_
   rintro e wz ⟨rfl, rfl⟩
   go_wp2_with fail
   refine HI2.out.mono ?_
   rintro e wz ⟨rfl, rfl⟩
   go_wp2_with fail
   refine HA.out.mono ?_
   rintro e wz ⟨rfl, rfl⟩
   go_wp2_with fail
   refine HN.out.mono ?_
   rintro e wz ⟨rfl, rfl⟩
   go_wp2_with fail
   refine HWI.out.mono ?_
   rintro e wz ⟨rfl, rfl⟩
   go_wp2_with fail
   refine HA2.out.mono ?_
   rintro e wz ⟨rfl, rfl⟩
   go_wp2
   all_goals go_ret
   all_goals exact ⟨rfl, rfl⟩
 · have z2 : (m.kind == 1) = false := by simpa using hmk
   generalize (G kd).ents.length = L at *
   generalize (G kb).ents.length = Ly at *
   clear h hd hq hk hkb hf hx hi hi2 hok hl1 hl2 hl3 hs f1 hmk hbe hfa hj hj2 hsy hl3y hly f1y HF
   go_enter Tryz.func101, Tryz.ntmps101
   go_wp2_with fail
   refine HI1.out.mono ?_
   rintro e wz ⟨rfl, rfl⟩
   go_wp2_with fail
   refine HI2.out.mono ?_
   rintro e wz ⟨rfl, rfl⟩
   go_wp2_with fail
   refine HA.out.mono ?_
   rintro e wz ⟨rfl, rfl⟩
   go_wp2_with fail
   refine HN.out.mono ?_
   rintro e wz ⟨rfl, rfl⟩
   go_wp2_with fail
   refine HA2.out.mono ?_
   rintro e wz ⟨rfl, rfl⟩
   go_wp2
   all_goals go_ret
   all_goals exact ⟨rfl, rfl⟩
theorem rf_move_kind {w : World} {t B : Nat} {G : Gt} {T : IT.Tr} (h : Trf w t B G T) {kd kb : Nat} (s sa : ByteArray) {n q : IT.Nd} (hd : T kd = some n) (hq : T kb = some q) (hk : n.kind = 1) (hkb : q.kind = 1) {kx i : Nat} {m : IT.Nd} (hf : IT.findN (bs s) n.names = some kx) (hx : T kx = some m) (hi : (G kd).ents[i]? = some (s, kx)) (hi2 : ∀ (j : Nat) (p : ByteArray × Nat), j < i → (G kd).ents[j]? = some p → p.1 ≠ s) (hok : okN (bs sa) = true) (hbe : ¬ (m.kind = 1 ∧ IT.Bel T kx kb)) {kw j : Nat} (hfa : IT.findN (bs sa) q.names = some kw) (hj : (G kb).ents[j]? = some (sa, kw)) (hj2 : ∀ (l : Nat) (p : ByteArray × Nat), l < j → (G kb).ents[l]? = some p → p.1 ≠ sa) {mw : IT.Nd} (hwx : kw ≠ kx) (hw : T kw = some mw) (hkk : ¬ (mw.kind = 1 ↔ m.kind = 1)) :
  Calls Tryz.prog 101 #[.pointer (some ⟨t, 0, none⟩), .int .i64 (kd : Int), .string s, .int .i64 (kb : Int), .string sa] w fun e w' => e = .returned (.int .i64 7) ∧ Below w.heap.size w w' := by
 have HI1 := Hd (rY h (kd : Int) hd)
 have HI2 := Hd (rY h (kb : Int) hq)
 obtain ⟨hd1, hd2⟩ := h.snd.1.rng kd n hd
 obtain ⟨hb1, hb2⟩ := h.snd.1.rng kb q hq
 have c0 := h.rep.cellT
 have b1 := h.rep.c1 kd hd2
 rw [(h.ties.sok kd n hd).kind] at b1
 have y1 := h.rep.c1 kb hb2
 rw [(h.ties.sok kb q hq).kind] at y1
 rw [hk] at b1
 rw [hkb] at y1
 obtain ⟨hx1, hx2⟩ := h.snd.1.rng kx m hx
 have HA := Hd (rf_at_some h.rep kd hd2 s hi hi2)
 have HN := Hd (rname_ok sa w)
 rw [hok] at HN
 have b9 := h.rep.c9 kd hd2
 obtain ⟨a, cap, hs, hl1, hl2, hl3⟩ := (h.rep.ents kd hd2).lit
 rw [hs] at b9
 obtain ⟨g, rfl, f1, f2⟩ := hl3 i _ hi
 have hil : i < (G kd).ents.length := (List.getElem?_eq_some_iff.1 hi).1
 have hl40 : (G kd).ents.length ≤ 40 := h.ties.few h.snd.1 kd hd2
 have x1 := h.rep.c1 kx hx2
 rw [(h.ties.sok kx m hx).kind] at x1
 have y9 := h.rep.c9 kb hb2
 obtain ⟨ay, capy, hsy, _, _, hl3y⟩ := (h.rep.ents kb hb2).lit
 rw [hsy] at y9
 have hly40 : (G kb).ents.length ≤ 40 := h.ties.few h.snd.1 kb hb2
 have hly : q.names.length = (G kb).ents.length := by have := (h.ties.sok kb q hq).names.length_eq; unfold ents at this; rw [List.length_map] at this; exact this.symm
 have HA2 := Hd (rf_at_some h.rep kb hb2 sa hj hj2)
 obtain ⟨gy, rfl, f1y, f2y⟩ := hl3y j _ hj
 have hjl : j < (G kb).ents.length := (List.getElem?_eq_some_iff.1 hj).1
 obtain ⟨hw1, hw2⟩ := h.snd.1.rng kw mw hw
 have w1 := h.rep.c1 kw hw2
 rw [(h.ties.sok kw mw hw).kind] at w1
 have z4 : ((kw : Int) == (kx : Int)) = false := by simpa using (show ¬ (kw : Int) = (kx : Int) by omega)
 have n1 : kx < 201 := by omega
 have n2 : (kx : Int) < 201 := by omega
 have n3 : kw < 201 := by omega
 have n4 : (kw : Int) < 201 := by omega
 have HF := Hd hf
 by_cases hmk : m.kind = 1
 · have hbe := fun hh => hbe ⟨hmk, hh⟩
   have HWI : Hid (Calls Tryz.prog 124 #[.pointer (some ⟨t, 0, none⟩), .int .i64 (kb : Int), .int .i64 (kx : Int)] w fun e w' => e = .returned (.bool false) ∧ w = w') := Hd ((rf_within h kb kx hq hkb).mono (by
    rintro e w' ⟨c, rfl, hc, rfl⟩
    cases c with
    | false => exact ⟨rfl, rfl⟩
    | true => exact absurd (hc.1 rfl) hbe))
   rw [hmk] at x1
   have hkw : (mw.kind == 1) = false := by
    by_cases e : mw.kind = 1
    · simp [e, hmk] at hkk ⊢
    · simp [e, hmk] at hkk ⊢
   generalize (G kd).ents.length = L at *
   generalize (G kb).ents.length = Ly at *
   clear h hd hq hk hkb hf hx hi hi2 hok hl1 hl2 hl3 hs f1 hmk hbe hfa hj hj2 hsy hl3y hly f1y HF hwx hw hkk
   go_enter Tryz.func101, Tryz.ntmps101
   go_wp2_with fail
   refine HI1.out.mono ?_
   rintro e wz ⟨rfl, rfl⟩
   go_wp2_with fail
   refine HI2.out.mono ?_
   rintro e wz ⟨rfl, rfl⟩
   go_wp2_with fail
   refine HA.out.mono ?_
   rintro e wz ⟨rfl, rfl⟩
   go_wp2_with fail
   refine HN.out.mono ?_
   rintro e wz ⟨rfl, rfl⟩
   go_wp2_with fail
   refine HWI.out.mono ?_
   rintro e wz ⟨rfl, rfl⟩
   go_wp2_with fail
   refine HA2.out.mono ?_
   rintro e wz ⟨rfl, rfl⟩
   go_upto_region 23 with fail
   go_quiet (fail)
   go_wp2
   all_goals go_ret
   all_goals exact ⟨rfl, belowDrewN (Below.refl _ _) _⟩
 · have z2 : (m.kind == 1) = false := by simpa using hmk
   have hkw : (mw.kind == 1) = true := by
    by_cases e : mw.kind = 1
    · simp [e, hmk] at hkk ⊢
    · simp [e, hmk] at hkk ⊢
   generalize (G kd).ents.length = L at *
   generalize (G kb).ents.length = Ly at *
   clear h hd hq hk hkb hf hx hi hi2 hok hl1 hl2 hl3 hs f1 hmk hbe hfa hj hj2 hsy hl3y hly f1y HF hwx hw hkk
   go_enter Tryz.func101, Tryz.ntmps101
   go_wp2_with fail
   refine HI1.out.mono ?_
   rintro e wz ⟨rfl, rfl⟩
   go_wp2_with fail
   refine HI2.out.mono ?_
   rintro e wz ⟨rfl, rfl⟩
   go_wp2_with fail
   refine HA.out.mono ?_
   rintro e wz ⟨rfl, rfl⟩
   go_wp2_with fail
   refine HN.out.mono ?_
   rintro e wz ⟨rfl, rfl⟩
   go_wp2_with fail
   refine HA2.out.mono ?_
   rintro e wz ⟨rfl, rfl⟩
   go_upto_region 23 with fail
   go_quiet (fail)
   go_wp2
   all_goals go_ret
   all_goals exact ⟨rfl, belowDrewN (Below.refl _ _) _⟩
theorem rf_move_kept {w : World} {t B : Nat} {G : Gt} {T : IT.Tr} (h : Trf w t B G T) {kd kb : Nat} (s sa : ByteArray) {n q : IT.Nd} (hd : T kd = some n) (hq : T kb = some q) (hk : n.kind = 1) (hkb : q.kind = 1) {kx i : Nat} {m : IT.Nd} (hf : IT.findN (bs s) n.names = some kx) (hx : T kx = some m) (hi : (G kd).ents[i]? = some (s, kx)) (hi2 : ∀ (j : Nat) (p : ByteArray × Nat), j < i → (G kd).ents[j]? = some p → p.1 ≠ s) (hok : okN (bs sa) = true) (hbe : ¬ (m.kind = 1 ∧ IT.Bel T kx kb)) {kw j : Nat} (hfa : IT.findN (bs sa) q.names = some kw) (hj : (G kb).ents[j]? = some (sa, kw)) (hj2 : ∀ (l : Nat) (p : ByteArray × Nat), l < j → (G kb).ents[l]? = some p → p.1 ≠ sa) {mw : IT.Nd} (hwx : kw ≠ kx) (hw : T kw = some mw) (hkk : mw.kind = 1 ↔ m.kind = 1) (hmw : mw.names ≠ []) :
  Calls Tryz.prog 101 #[.pointer (some ⟨t, 0, none⟩), .int .i64 (kd : Int), .string s, .int .i64 (kb : Int), .string sa] w fun e w' => e = .returned (.int .i64 8) ∧ Below w.heap.size w w' := by
 have HI1 := Hd (rY h (kd : Int) hd)
 have HI2 := Hd (rY h (kb : Int) hq)
 obtain ⟨hd1, hd2⟩ := h.snd.1.rng kd n hd
 obtain ⟨hb1, hb2⟩ := h.snd.1.rng kb q hq
 have c0 := h.rep.cellT
 have b1 := h.rep.c1 kd hd2
 rw [(h.ties.sok kd n hd).kind] at b1
 have y1 := h.rep.c1 kb hb2
 rw [(h.ties.sok kb q hq).kind] at y1
 rw [hk] at b1
 rw [hkb] at y1
 obtain ⟨hx1, hx2⟩ := h.snd.1.rng kx m hx
 have HA := Hd (rf_at_some h.rep kd hd2 s hi hi2)
 have HN := Hd (rname_ok sa w)
 rw [hok] at HN
 have b9 := h.rep.c9 kd hd2
 obtain ⟨a, cap, hs, hl1, hl2, hl3⟩ := (h.rep.ents kd hd2).lit
 rw [hs] at b9
 obtain ⟨g, rfl, f1, f2⟩ := hl3 i _ hi
 have hil : i < (G kd).ents.length := (List.getElem?_eq_some_iff.1 hi).1
 have hl40 : (G kd).ents.length ≤ 40 := h.ties.few h.snd.1 kd hd2
 have x1 := h.rep.c1 kx hx2
 rw [(h.ties.sok kx m hx).kind] at x1
 have y9 := h.rep.c9 kb hb2
 obtain ⟨ay, capy, hsy, _, _, hl3y⟩ := (h.rep.ents kb hb2).lit
 rw [hsy] at y9
 have hly40 : (G kb).ents.length ≤ 40 := h.ties.few h.snd.1 kb hb2
 have hly : q.names.length = (G kb).ents.length := by have := (h.ties.sok kb q hq).names.length_eq; unfold ents at this; rw [List.length_map] at this; exact this.symm
 have HA2 := Hd (rf_at_some h.rep kb hb2 sa hj hj2)
 obtain ⟨gy, rfl, f1y, f2y⟩ := hl3y j _ hj
 have hjl : j < (G kb).ents.length := (List.getElem?_eq_some_iff.1 hj).1
 obtain ⟨hw1, hw2⟩ := h.snd.1.rng kw mw hw
 have w1 := h.rep.c1 kw hw2
 rw [(h.ties.sok kw mw hw).kind] at w1
 have z4 : ((kw : Int) == (kx : Int)) = false := by simpa using (show ¬ (kw : Int) = (kx : Int) by omega)
 have n1 : kx < 201 := by omega
 have n2 : (kx : Int) < 201 := by omega
 have n3 : kw < 201 := by omega
 have n4 : (kw : Int) < 201 := by omega
 have w9 := h.rep.c9 kw hw2
 obtain ⟨aw, capw, hsw, _, _, _⟩ := (h.rep.ents kw hw2).lit
 rw [hsw] at w9
 have hlw : (G kw).ents.length = mw.names.length := by have := (h.ties.sok kw mw hw).names.length_eq; unfold ents at this; rw [List.length_map] at this; exact this
 have hlw40 : (G kw).ents.length ≤ 40 := h.ties.few h.snd.1 kw hw2
 have hlw0 : (0 : Int) < (G kw).ents.length := by
  have : 0 < mw.names.length := List.length_pos_iff.2 hmw
  omega
 have HF := Hd hf
 by_cases hmk : m.kind = 1
 · have hbe := fun hh => hbe ⟨hmk, hh⟩
   have HWI : Hid (Calls Tryz.prog 124 #[.pointer (some ⟨t, 0, none⟩), .int .i64 (kb : Int), .int .i64 (kx : Int)] w fun e w' => e = .returned (.bool false) ∧ w = w') := Hd ((rf_within h kb kx hq hkb).mono (by
    rintro e w' ⟨c, rfl, hc, rfl⟩
    cases c with
    | false => exact ⟨rfl, rfl⟩
    | true => exact absurd (hc.1 rfl) hbe))
   rw [hmk] at x1
   have hkw : (mw.kind == 1) = true := by
    by_cases e : mw.kind = 1
    · simp [e, hmk] at hkk ⊢
    · simp [e, hmk] at hkk ⊢
   generalize (G kd).ents.length = L at *
   generalize (G kb).ents.length = Ly at *
   generalize (G kw).ents.length = Lw at *
   clear h hd hq hk hkb hf hx hi hi2 hok hl1 hl2 hl3 hs f1 hmk hbe hfa hj hj2 hsy hl3y hly f1y HF hwx hw hkk hmw hlw hsw
   go_enter Tryz.func101, Tryz.ntmps101
   go_wp2_with fail
   refine HI1.out.mono ?_
   rintro e wz ⟨rfl, rfl⟩
   go_wp2_with fail
   refine HI2.out.mono ?_
   rintro e wz ⟨rfl, rfl⟩
   go_wp2_with fail
   refine HA.out.mono ?_
   rintro e wz ⟨rfl, rfl⟩
   go_wp2_with fail
   refine HN.out.mono ?_
   rintro e wz ⟨rfl, rfl⟩
   go_wp2_with fail
   refine HWI.out.mono ?_
   rintro e wz ⟨rfl, rfl⟩
   go_wp2_with fail
   refine HA2.out.mono ?_
   rintro e wz ⟨rfl, rfl⟩
   go_upto_region 23 with fail
   go_quiet (fail)
   go_wp2
   all_goals go_ret
   all_goals exact ⟨rfl, belowDrewN (Below.refl _ _) _⟩
 · have z2 : (m.kind == 1) = false := by simpa using hmk
   have hkw : (mw.kind == 1) = false := by
    by_cases e : mw.kind = 1
    · simp [e, hmk] at hkk ⊢
    · simp [e, hmk] at hkk ⊢
   generalize (G kd).ents.length = L at *
   generalize (G kb).ents.length = Ly at *
   generalize (G kw).ents.length = Lw at *
   clear h hd hq hk hkb hf hx hi hi2 hok hl1 hl2 hl3 hs f1 hmk hbe hfa hj hj2 hsy hl3y hly f1y HF hwx hw hkk hmw hlw hsw
   go_enter Tryz.func101, Tryz.ntmps101
   go_wp2_with fail
   refine HI1.out.mono ?_
   rintro e wz ⟨rfl, rfl⟩
   go_wp2_with fail
   refine HI2.out.mono ?_
   rintro e wz ⟨rfl, rfl⟩
   go_wp2_with fail
   refine HA.out.mono ?_
   rintro e wz ⟨rfl, rfl⟩
   go_wp2_with fail
   refine HN.out.mono ?_
   rintro e wz ⟨rfl, rfl⟩
   go_wp2_with fail
   refine HA2.out.mono ?_
   rintro e wz ⟨rfl, rfl⟩
   go_upto_region 23 with fail
   go_quiet (fail)
   go_wp2
   all_goals go_ret
   all_goals exact ⟨rfl, belowDrewN (Below.refl _ _) _⟩
theorem Tie.less2 {G : Gt} {T : IT.Tr} (h : Tie G T) {d i x : Nat} {n : IT.Nd} (ho : IT.Ord n.names) (hd : T d = some n) (s : ByteArray) (v : Value) (hi : (G d).ents[i]? = some (s, x)) (hf : IT.findN (bs s) n.names = some x) : Tie (updG G d { G d with sl := v, ents := (G d).ents.take i ++ (G d).ents.drop (i + 1) }) (IT.upd T d (some { n with names := IT.delN (bs s) n.names })) := by
 have hk := h.sok d n hd
 exact h.set d ⟨hk.is, hk.kind, hk.mode, hk.owner, hk.group, hk.tty, hk.holds, hk.parent, hk.data, less_perm ho hk.names hi hf⟩
theorem Tie.find2 {G : Gt} {T : IT.Tr} (h : Tie G T) {k : Nat} {m : IT.Nd} (hk : T k = some m) (ho : IT.Ord m.names) {s : ByteArray} {x : Nat} (hf : IT.findN (bs s) m.names = some x) : ∃ i : Nat, (G k).ents[i]? = some (s, x) ∧ ∀ (j : Nat) (p : ByteArray × Nat), j < i → (G k).ents[j]? = some p → p.1 ≠ s := by
 have e : IT.findN (bs s) m.names = look (G k).ents s := by
  rw [← IT.perm_find ho (h.sok k m hk).names, look_find]
 rw [e] at hf
 rcases look_idx s (G k).ents with ⟨h1, _⟩ | ⟨i, y, h1, h2, h3⟩
 · rw [h1] at hf; cases hf
 · rw [h1] at hf
   obtain rfl := oI hf
   exact ⟨i, h2, h3⟩
theorem upd_upd (T : IT.Tr) (k : Nat) (a b : Option IT.Nd) : IT.upd (IT.upd T k a) k b = IT.upd T k b := by
 funext j
 unfold IT.upd
 by_cases e : j = k
 · rw [if_pos e, if_pos e]
 · rw [if_neg e, if_neg e, if_neg e]
theorem less_few {G : Gt} {d i : Nat} {v : Value} (k : Nat) (h : (G k).ents.length ≤ 40) : ((updG G d { G d with sl := v, ents := (G d).ents.take i ++ (G d).ents.drop (i + 1) }) k).ents.length ≤ 40 := by
 by_cases e : k = d
 · subst e
   rw [updG_same]
   show ((G k).ents.take i ++ (G k).ents.drop (i + 1)).length ≤ 40
   rw [List.length_append, List.length_take, List.length_drop]
   omega
 · rw [updG_other _ _ e]; exact h
theorem Tie.endF {G : Gt} {T : IT.Tr} (h : Tie G T) {k : Nat} {m : IT.Nd} (hk : T k = some { m with holds := m.holds + 1 }) {hv : Int} (hh : ((m.holds + 1 : Nat) : Int) = hv) : Tie (updG G k { G k with holds := hv - 1 }) (IT.upd T k (some m)) := by
 have hp := h.sok k _ hk
 exact h.set k ⟨hp.is, hp.kind, hp.mode, hp.owner, hp.group, hp.tty, by show hv - 1 = (m.holds : Int); omega, hp.parent, hp.data, hp.names⟩
theorem Tie.endD {G : Gt} {T : IT.Tr} (h : Tie G T) {k : Nat} {m : IT.Nd} (hk : T k = some { m with holds := m.holds + 1 }) (hm : m.kind = 1) {hv : Int} (hh : ((m.holds + 1 : Nat) : Int) = hv) (p : Nat) : Tie (updG (updG G k { G k with parent := (p : Int) }) k { (updG G k { G k with parent := (p : Int) }) k with holds := hv - 1 }) (IT.upd T k (some { m with parent := p })) := by
 have h4 := h.par hk hm p
 have hp := h4.sok k _ (IT.uY _ _ _)
 have := h4.set k (n := { (updG G k { G k with parent := (p : Int) }) k with holds := hv - 1 }) (m := { m with parent := p }) ⟨hp.is, hp.kind, hp.mode, hp.owner, hp.group, hp.tty, by show hv - 1 = (m.holds : Int); omega, hp.parent, hp.data, hp.names⟩
 rw [upd_upd] at this
 exact this
theorem under_alone (b x : Nat) (m : IT.Nd) : IT.under b (IT.alone x m) = IT.under b m := by
 unfold IT.under IT.alone
 by_cases e : m.kind = 1
 · rw [if_pos e, if_pos (show ({ m with parent := x } : IT.Nd).kind = 1 from e), if_pos e]
 · rw [if_neg e, if_neg e]
theorem upd_eq {S : IT.Tr} {k : Nat} {o : Option IT.Nd} {j : Nat} (h : j = k) : IT.upd S k o j = o := if_pos h
theorem upd_ne {S : IT.Tr} {k : Nat} {o : Option IT.Nd} {j : Nat} (h : ¬ j = k) : IT.upd S k o j = S j := if_neg h
theorem move_eq_none {S : IT.Tr} {d b x : Nat} {nm ns : IT.Bytes} {n qb q1 m : IT.Nd} {mh : Option IT.Nd} (hxd : x ≠ d) (hxb : x ≠ b) (hq : qb = q1) :
  IT.upd (IT.upd (IT.upd (IT.upd S x mh) d (some { n with names := IT.delN nm n.names })) b (some { qb with names := IT.insN ns x qb.names })) x (some (IT.under b m)) = IT.entT (IT.delT S d x nm n m) b x ns q1 (IT.alone x m) := by
 subst hq
 funext j
 unfold IT.entT IT.delT
 rw [under_alone]
 by_cases e1 : j = x
 · subst e1; rw [upd_eq rfl, upd_ne hxb, upd_eq rfl]
 · rw [upd_ne e1]
   by_cases e2 : j = b
   · subst e2; rw [upd_eq rfl, upd_eq rfl]
   · rw [upd_ne e2, upd_ne e2, upd_ne e1]
     by_cases e3 : j = d
     · subst e3; rw [upd_eq rfl, upd_eq rfl]
     · rw [upd_ne e3, upd_ne e3, upd_ne e1, upd_ne e1]
theorem del_comm (a b : IT.Bytes) (l : List (IT.Bytes × Nat)) : IT.delN a (IT.delN b l) = IT.delN b (IT.delN a l) := by
 unfold IT.delN
 rw [List.filter_filter, List.filter_filter]
 congr 1
 funext p
 exact Bool.and_comm _ _
theorem move_eq_some {S : IT.Tr} {d b x y : Nat} {nm ns : IT.Bytes} {n q na qb q1 m mw : IT.Nd} {mh : Option IT.Nd} (hxd : x ≠ d) (hxb : x ≠ b) (hyx : y ≠ x) (hyd : y ≠ d) (hyb : y ≠ b) (hnq : d = b → n = q)
  (hna : na = if d = b then { q with names := IT.delN ns q.names } else n) (hqb : qb = if d = b then { na with names := IT.delN nm na.names } else { q with names := IT.delN ns q.names }) (hq1 : q1 = if b = d then { n with names := IT.delN nm n.names } else q) :
  IT.upd (IT.upd (IT.upd (IT.upd (IT.upd (IT.upd S x mh) y (some (IT.alone y mw))) b (some { q with names := IT.delN ns q.names })) d (some { na with names := IT.delN nm na.names })) b (some { qb with names := IT.insN ns x qb.names })) x (some (IT.under b m)) = IT.entT (IT.delT (IT.delT S d x nm n m) b y ns q1 mw) b x ns { q1 with names := IT.delN ns q1.names } (IT.alone x m) := by
 have key : ({ qb with names := IT.insN ns x qb.names } : IT.Nd) = { ({ q1 with names := IT.delN ns q1.names } : IT.Nd) with names := IT.insN ns x ({ q1 with names := IT.delN ns q1.names } : IT.Nd).names } := by
  by_cases e : d = b
  · have := hnq e
    subst this
    rw [if_pos e] at hna hqb
    rw [if_pos e.symm] at hq1
    subst hna hqb hq1
    show ({ n with names := IT.insN ns x (IT.delN nm (IT.delN ns n.names)) } : IT.Nd) = { n with names := IT.insN ns x (IT.delN ns (IT.delN nm n.names)) }
    rw [del_comm]
  · rw [if_neg e] at hna hqb
    rw [if_neg (Ne.symm e)] at hq1
    subst hqb hq1
    rfl
 funext j
 unfold IT.entT IT.delT
 rw [under_alone, key]
 by_cases e1 : j = x
 · subst e1; rw [upd_eq rfl, upd_ne hxb, upd_eq rfl]
 · rw [upd_ne e1]
   by_cases e2 : j = b
   · subst e2; rw [upd_eq rfl, upd_eq rfl]
   · rw [upd_ne e2, upd_ne e2, upd_ne e1, upd_ne e2]
     by_cases e3 : j = d
     · subst e3
       have e4 : ¬ j = b := e2
       rw [upd_eq rfl, upd_ne (Ne.symm hyd), upd_eq rfl]
       rw [if_neg e4] at hna
       rw [hna]
     · rw [upd_ne e3, upd_ne e2]
       by_cases e5 : j = y
       · subst e5; rw [upd_eq rfl, upd_eq rfl]
       · rw [upd_ne e5, upd_ne e5, upd_ne e1, upd_ne e3, upd_ne e1]
theorem rf_move_to {w : World} {t B : Nat} {G : Gt} {T : IT.Tr} (h : Trf w t B G T) (hb : HB T 1000000) {kd kb : Nat} (s sa : ByteArray) {n q : IT.Nd} (hd : T kd = some n) (hq : T kb = some q) (hk : n.kind = 1) (hkb : q.kind = 1) {kx i : Nat} {m : IT.Nd} (hf : IT.findN (bs s) n.names = some kx) (hx : T kx = some m) (hi : (G kd).ents[i]? = some (s, kx)) (hi2 : ∀ (j : Nat) (p : ByteArray × Nat), j < i → (G kd).ents[j]? = some p → p.1 ≠ s) (hok : okN (bs sa) = true) (hbe : ¬ (m.kind = 1 ∧ IT.Bel T kx kb)) (hfa : IT.findN (bs sa) q.names = none) (hfull : ¬ (kd ≠ kb ∧ q.names.length ≥ 40)) :
  Calls Tryz.prog 101 #[.pointer (some ⟨t, 0, none⟩), .int .i64 (kd : Int), .string s, .int .i64 (kb : Int), .string sa] w fun e w' => e = .returned (.int .i64 0) ∧ Stf w t B (fun T' => IT.isMove okN T kd (bs s) kb (bs sa) 0 T') w' := by
 have HI1 := Hd (rY h (kd : Int) hd)
 have HI2 := Hd (rY h (kb : Int) hq)
 obtain ⟨hd1, hd2⟩ := h.snd.1.rng kd n hd
 obtain ⟨hb1, hb2⟩ := h.snd.1.rng kb q hq
 have c0 := h.rep.cellT
 have b1 := h.rep.c1 kd hd2
 rw [(h.ties.sok kd n hd).kind] at b1
 have y1 := h.rep.c1 kb hb2
 rw [(h.ties.sok kb q hq).kind] at y1
 rw [hk] at b1
 rw [hkb] at y1
 obtain ⟨hx1, hx2⟩ := h.snd.1.rng kx m hx
 have HA := Hd (rf_at_some h.rep kd hd2 s hi hi2)
 have HN := Hd (rname_ok sa w)
 rw [hok] at HN
 have b9 := h.rep.c9 kd hd2
 obtain ⟨a, cap, hs, hl1, hl2, hl3⟩ := (h.rep.ents kd hd2).lit
 rw [hs] at b9
 obtain ⟨g, rfl, f1, f2⟩ := hl3 i _ hi
 have hil : i < (G kd).ents.length := (List.getElem?_eq_some_iff.1 hi).1
 have hl40 : (G kd).ents.length ≤ 40 := h.ties.few h.snd.1 kd hd2
 have x1 := h.rep.c1 kx hx2
 rw [(h.ties.sok kx m hx).kind] at x1
 have y9 := h.rep.c9 kb hb2
 obtain ⟨ay, capy, hsy, _, _, hl3y⟩ := (h.rep.ents kb hb2).lit
 rw [hsy] at y9
 have hly40 : (G kb).ents.length ≤ 40 := h.ties.few h.snd.1 kb hb2
 have hly : q.names.length = (G kb).ents.length := by have := (h.ties.sok kb q hq).names.length_eq; unfold ents at this; rw [List.length_map] at this; exact this.symm
 have HA2 := Hd (rf_at_none h.rep kb hb2 sa ((h.ties.find h.snd.1 hq sa).resolve_right (fun ⟨i, y, e, _⟩ => by rw [hfa] at e; cases e)).2)
 obtain ⟨hxd, hxb, hxr⟩ := IT.move_ne h.snd hd hq hk hkb hf hx hok hbe
 have x6 := h.rep.c6 kx hx2
 rw [(h.ties.sok kx m hx).holds] at x6
 have s6 := h.rep.frozen (kx * 10 + 6)
 have hle : (m.holds : Int) ≤ 1000000 := by have := hb kx m hx; omega
 have hkx := h.ties.sok kx m hx
 have ht1 := h.ties.set kx (n := { G kx with holds := (m.holds : Int) + 1 }) (m := { m with holds := m.holds + 1 }) ⟨hkx.is, hkx.kind, hkx.mode, hkx.owner, hkx.group, hkx.tty, rfl, hkx.parent, hkx.data, hkx.names⟩
 have e1d : (updG G kx { G kx with holds := (m.holds : Int) + 1 }) kd = G kd := updG_other _ _ (Ne.symm hxd)
 have e1b : (updG G kx { G kx with holds := (m.holds : Int) + 1 }) kb = G kb := updG_other _ _ (Ne.symm hxb)
 obtain ⟨q1, hq1, hq1k, hq1e⟩ := IT.move_q h.snd hd hq hk hkb hf hx hok hbe
 have hrf1 := h.rep.set hx2 (show 6 < 10 by omega) (.int .i64 ((m.holds : Int) + 1)) { G kx with holds := (m.holds : Int) + 1 } rfl (h.rep.ents kx hx2)
 have hmo1 := (Mo.refl B w).set (i := kx * 10 + 6) (.int .i64 ((m.holds : Int) + 1))
 obtain ⟨TF, hTF⟩ : ∃ TF, IT.entT (IT.delT T kd kx (bs s) n m) kb kx (bs sa) q1 (IT.alone kx m) = TF := ⟨_, rfl⟩
 have hmv : IT.isMove okN T kd (bs s) kb (bs sa) 0 TF := by
  unfold IT.isMove
  rw [hd, hq]
  dsimp only
  rw [if_neg (fun hh => hh.elim (fun e => e hk) (fun e => e hkb)), hf]
  dsimp only
  refine ⟨m, hx, ?_⟩
  rw [if_neg (by rw [hok]; intro e; cases e), if_neg hbe, hfa]
  dsimp only
  rw [if_neg hfull]
  exact ⟨rfl, q1, IT.alone kx m, hq1, IT.del_at_x hxd, hTF.symm⟩
 have HEND : Hid (∀ G5 w5, Rf w5 t B G5 → Tie G5 TF → Mo B w w5 → Calls Tryz.prog 106 #[.pointer (some ⟨t, 0, none⟩)] w5 fun e w' => e = .returned (.tuple #[]) ∧ Stf w t B (fun T' => IT.isMove okN T kd (bs s) kb (bs sa) 0 T') w') := Hd (fun G5 w5 hr ht hm => (rf_gone hr ht (IT.isMove.sound hmv h.snd).1).mono (by
  rintro e w' ⟨rfl, hs⟩
  refine ⟨rfl, (Stf.pre hm hs).imp fun T' hT' => ?_⟩
  rw [IT.NF.unique hT' (.done (IT.isMove.sound hmv h.snd).2)]
  exact hmv))
 have hqb0 : ∃ qb, (IT.upd (IT.upd T kx (some { m with holds := m.holds + 1 })) kd (some { n with names := IT.delN (bs s) n.names })) kb = some qb ∧ qb = q1 := by
  refine ⟨q1, ?_, rfl⟩
  rw [hq1e]
  by_cases e : kb = kd
  · rw [if_pos e, upd_eq e]
  · rw [if_neg e, upd_ne e, upd_ne (Ne.symm hxb)]; exact hq
 obtain ⟨qb, hqb, hqbe⟩ := hqb0
 have HFX0 := move_eq_none (S := T) (mh := some { m with holds := m.holds + 1 }) (nm := bs s) (ns := bs sa) (n := n) (m := m) hxd hxb hqbe
 rw [hTF] at HFX0
 have hx3 : (IT.upd (IT.upd (IT.upd T kx (some { m with holds := m.holds + 1 })) kd (some { n with names := IT.delN (bs s) n.names })) kb (some { qb with names := IT.insN (bs sa) kx qb.names })) kx = some { m with holds := m.holds + 1 } := by
  rw [upd_ne hxb, upd_ne hxd, upd_eq rfl]
 have hna : (IT.upd T kx (some { m with holds := m.holds + 1 })) kd = some n := by rw [upd_ne (Ne.symm hxd)]; exact hd
 have hoa := h.snd.1.ord kd n hd
 have h4a : (updG G kx { G kx with holds := (m.holds : Int) + 1 } kd).ents.length ≤ 40 := by rw [e1d]; exact hl40
 have h4b : (updG G kx { G kx with holds := (m.holds : Int) + 1 } kb).ents.length ≤ 40 := by rw [e1b]; exact hly40
 obtain ⟨Ga, hGa⟩ : ∃ Ga, updG G kx { G kx with holds := (m.holds : Int) + 1 } = Ga := ⟨_, rfl⟩
 rw [hGa] at ht1 hrf1 h4a h4b
 have HRFa := Hd hrf1
 have HMa := Hd hmo1
 have HTa := Hd ht1
 have HNa := Hd hna
 have HOa := Hd hoa
 have HFa := Hd hf
 have H4a := Hd h4a
 have H4b := Hd h4b
 have HQB := Hd hqb
 have HX3 := Hd hx3
 have hroom : ((40 : Int) ≤ (G kb).ents.length ∧ ((kb : Int) == (kd : Int)) = true) ∨ ((G kb).ents.length : Int) < 40 := by
  by_cases e : kd = kb
  · by_cases e2 : ((G kb).ents.length : Int) < 40
    · exact .inr e2
    · exact .inl ⟨by omega, by simp [e]⟩
  · refine .inr ?_
    have : ¬ q.names.length ≥ 40 := fun hh => hfull ⟨e, hh⟩
    omega
 generalize (G kd).ents.length = L0 at *
 generalize (G kb).ents.length = Ly at *
 clear hrf1 hmo1 ht1 hna hoa h4a h4b hqb hx3 hTF hmv hqbe hq1 hq1k hq1e hkx e1d e1b hGa hxd hxb hxr hfa hfull hly hl1 hl2 hl3 hs f1 hsy hl3y hi hi2
 by_cases hmk : m.kind = 1
 case' pos =>
  have HFX : Hid (IT.upd (IT.upd (IT.upd (IT.upd T kx (some { m with holds := m.holds + 1 })) kd (some { n with names := IT.delN (bs s) n.names })) kb (some { qb with names := IT.insN (bs sa) kx qb.names })) kx (some { m with parent := kb }) = TF) := Hd (by
   rw [← HFX0]; unfold IT.under; rw [if_pos hmk])
  have HKD := Hd hmk
  have hbe := fun hh => hbe ⟨hmk, hh⟩
  have HWI : Hid (Calls Tryz.prog 124 #[.pointer (some ⟨t, 0, none⟩), .int .i64 (kb : Int), .int .i64 (kx : Int)] w fun e w' => e = .returned (.bool false) ∧ w = w') := Hd ((rf_within h kb kx hq hkb).mono (by
   rintro e w' ⟨c, rfl, hc, rfl⟩
   cases c with
   | false => exact ⟨rfl, rfl⟩
   | true => exact absurd (hc.1 rfl) hbe))
  rw [hmk] at x1
  clear h hd hq hk hkb hf hx hok hmk hbe HFX0 hb
  rcases hroom with ⟨hL1, z3⟩ | hL1
  all_goals
   go_enter Tryz.func101, Tryz.ntmps101
   go_wp2_with fail
   refine HI1.out.mono ?_
   rintro e wz ⟨rfl, rfl⟩
   go_wp2_with fail
   refine HI2.out.mono ?_
   rintro e wz ⟨rfl, rfl⟩
   go_wp2_with fail
   refine HA.out.mono ?_
   rintro e wz ⟨rfl, rfl⟩
   go_wp2_with fail
   refine HN.out.mono ?_
   rintro e wz ⟨rfl, rfl⟩
   go_wp2_with fail
   refine HWI.out.mono ?_
   rintro e wz ⟨rfl, rfl⟩
   go_wp2_with fail
   refine HA2.out.mono ?_
   rintro e wz ⟨rfl, rfl⟩
   go_wp2_with fail
 case' neg =>
  have HFX : Hid (IT.upd (IT.upd (IT.upd (IT.upd T kx (some { m with holds := m.holds + 1 })) kd (some { n with names := IT.delN (bs s) n.names })) kb (some { qb with names := IT.insN (bs sa) kx qb.names })) kx (some m) = TF) := Hd (by
   rw [← HFX0]; unfold IT.under; rw [if_neg hmk])
  have z2 : (m.kind == 1) = false := by simpa using hmk
  clear h hd hq hk hkb hf hx hok hmk hbe HFX0 hb
  rcases hroom with ⟨hL1, z3⟩ | hL1
  all_goals
   go_enter Tryz.func101, Tryz.ntmps101
   go_wp2_with fail
   refine HI1.out.mono ?_
   rintro e wz ⟨rfl, rfl⟩
   go_wp2_with fail
   refine HI2.out.mono ?_
   rintro e wz ⟨rfl, rfl⟩
   go_wp2_with fail
   refine HA.out.mono ?_
   rintro e wz ⟨rfl, rfl⟩
   go_wp2_with fail
   refine HN.out.mono ?_
   rintro e wz ⟨rfl, rfl⟩
   go_wp2_with fail
   refine HA2.out.mono ?_
   rintro e wz ⟨rfl, rfl⟩
   go_wp2_with fail
 all_goals
  clear c0 b1 y1 x1 b9 y9 x6 s6 f2
  have hrfa := HRFa.out
  have hmoa := HMa.out
  clear HRFa HMa
  generalize w.setCell ⟨B, kx * 10 + 6, none⟩ (.int .i64 ((m.holds : Int) + 1)) = Wa at *
  have HRFa := Hd hrfa
  have HMa := Hd hmoa
  clear hrfa hmoa
  obtain ⟨i2, hi3, hi4⟩ := HTa.out.find2 HNa.out HOa.out HFa.out
  refine (rf_at_some HRFa.out kd hd2 s hi3 hi4).mono ?_
  rintro e wz ⟨rfl, rfl⟩
  have HLB := Hd (fun (v : Value) => less_few (G := Ga) (d := kd) (i := i2) (v := v) kb H4b.out)
  have HT2 := Hd (fun v => HTa.out.less2 HOa.out HNa.out s v hi3 HFa.out)
  have hwo := rf_without HRFa.out kd i2 hd2 (List.getElem?_eq_some_iff.1 hi3).1 H4a.out
  clear hi3 hi4
  have HWO := Hd hwo
  clear hwo
  go_wp2_with fail
  refine HWO.out.mono ?_
  rintro e W2 ⟨rfl, v2, hrf, hmo2⟩
  have HM1 := Hd (HMa.out.trans hmo2)
  have ht2 := HT2.out v2
  have hl40 := HLB.out v2
  obtain ⟨G2, hG2⟩ : ∃ G2, updG Ga kd { Ga kd with sl := v2, ents := (Ga kd).ents.take i2 ++ (Ga kd).ents.drop (i2 + 1) } = G2 := ⟨_, rfl⟩
  rw [hG2] at hrf ht2 hl40
  have HTI2 := Hd ht2
  clear hG2 hmo2 ht2
  go_upto_region 37 with fail
  obtain ⟨i0, hi0, hz0, hz1, hz2⟩ := info_parts info_entry
  have HT3 := Hd (fun v => HTI2.out.more HQB.out (x := kx) sa v)
  obtain ⟨E, hE1⟩ : ∃ E, (G2 kb).ents = E := ⟨_, rfl⟩
  obtain ⟨a, cap, hs1, _, _, _⟩ := (hrf.ents kb hb2).lit
  obtain ⟨L, hL⟩ : ∃ L, E.length = L := ⟨_, rfl⟩
  rw [hE1, hL] at hs1
  rw [hE1, hL] at hl40
  have hL2 : L < 41 := by omega
  have HLE := Hd hL
  have HG := Hd hE1
  have HRF := Hd hrf
  have hBL := hrf.ltB
  have hTL := hrf.ltT
  have hTB := hrf.ne
  have c0 := hrf.cellT
  have b9 := hrf.c9 kb hb2
  rw [hs1] at b9
  have C9 := Hd b9
  have s9 := hrf.frozen (kb * 10 + 9)
  have HSRC : Hid (∀ W', Mo B W2 W' → W'.ownsRow 0 148 2 (.slice a L cap) L (flatE E)) := Hd (fun W' hm => by
   have := EntAt.mo HRF.out (HRF.out.ents kb hb2) hm
   unfold EntAt at this
   rw [hs1, hE1, HLE.out] at this
   rw [← HLE.out] at this ⊢
   exact this)
  have n1 : kb < 201 := by omega
  have n2 : (kb : Int) < 201 := by omega
  clear hrf hs1 hE1 hL hl40
  refine wp_region_held_drew (S := (fun W' => Mo B W2 W' ∧ W'.cell? ⟨t, 0, none⟩ = some (.slice (some ⟨B, 0, none⟩) 201 201) ∧ W'.frozen? ⟨B, kb * 10 + 9, none⟩ = false)) (by kernel_rfl) (Sy.below (Below.refl _ _).drew hTL hBL (Sy.start HRF.out _)) (fun hHeld => ?_)
  refine wpAnyH_take (i := 0) (v := ?_) rfl (by kernel_rfl) (by kernel_rfl) (by kernel_rfl) (fun _ _ _ h => h) (.inl ⟨by rfl, ?_⟩) (by assumption) ?_
  rotate_left
  · (intro W hSw; (try dsimp only at hSw); go_simp; try with_reducible rfl)
  try simp only [lA, lB, lC, Act.put, lD, lE, lF]
  refine wpAnyH_take (i := 1) (v := ?_) rfl (by kernel_rfl) (by kernel_rfl) (by kernel_rfl) (fun _ _ _ h => h) (.inl ⟨by rfl, ?_⟩) (by assumption) ?_
  rotate_left
  · (intro W hSw; (try dsimp only at hSw); go_simp; try with_reducible rfl)
  try simp only [lA, lB, lC, Act.put, lD, lE, lF]
  refine wpAnyH_take (i := 2) (v := ?_) rfl (by kernel_rfl) (by kernel_rfl) (by kernel_rfl) (fun _ _ _ h => h) (.inl ⟨by rfl, ?_⟩) (by assumption) ?_
  rotate_left
  · (intro W hSw; (try dsimp only at hSw); go_simp; try with_reducible rfl)
  try simp only [lA, lB, lC, Act.put, lD, lE, lF]
  refine wpAnyH_take (i := 3) (v := ?_) rfl (by kernel_rfl) (by kernel_rfl) (by kernel_rfl) (fun _ _ _ h => h) (.inl ⟨by rfl, ?_⟩) (by assumption) ?_
  rotate_left
  · (intro W hSw; (try dsimp only at hSw); go_simp; try with_reducible rfl)
  try simp only [lA, lB, lC, Act.put, lD, lE, lF]
  refine wpAnyH_take (i := 4) (v := ?_) rfl (by kernel_rfl) (by kernel_rfl) (by kernel_rfl) (fun _ _ _ h => h) (.inl ⟨by rfl, ?_⟩) (by assumption) ?_
  rotate_left
  · (intro W hSw; (try dsimp only at hSw); go_simp; try with_reducible rfl)
  try simp only [lA, lB, lC, Act.put, lD, lE, lF]
  refine wpAnyH_take (i := 6) (v := ?_) rfl (by kernel_rfl) (by kernel_rfl) (by kernel_rfl) (fun _ _ _ h => h) (.inl ⟨by rfl, ?_⟩) (by assumption) ?_
  rotate_left
  · (intro W hSw; (try dsimp only at hSw); go_simp; try with_reducible rfl)
  try simp only [lA, lB, lC, Act.put, lD, lE, lF]
  refine wpAnyH_take (i := 7) (v := ?_) rfl (by kernel_rfl) (by kernel_rfl) (by kernel_rfl) (fun _ _ _ h => h) (.inl ⟨by rfl, ?_⟩) (by assumption) ?_
  rotate_left
  · (intro W hSw; (try dsimp only at hSw); go_simp; try with_reducible rfl)
  try simp only [lA, lB, lC, Act.put, lD, lE, lF]
  refine wpAnyH_take (i := 8) (v := ?_) rfl (by kernel_rfl) (by kernel_rfl) (by kernel_rfl) (fun _ _ _ h => h) (.inl ⟨by rfl, ?_⟩) (by assumption) ?_
  rotate_left
  · (intro W hSw; (try dsimp only at hSw); go_simp; try with_reducible rfl)
  try simp only [lA, lB, lC, Act.put, lD, lE, lF]
  refine wpAnyH_take (i := 9) (v := ?_) rfl (by kernel_rfl) (by kernel_rfl) (by kernel_rfl) (fun _ _ _ h => h) (.inl ⟨by rfl, ?_⟩) (by assumption) ?_
  rotate_left
  · (intro W hSw; (try dsimp only at hSw); go_simp; try with_reducible rfl)
  try simp only [lA, lB, lC, Act.put, lD, lE, lF]
  refine wpAnyH_take (i := 10) (v := ?_) rfl (by kernel_rfl) (by kernel_rfl) (by kernel_rfl) (fun _ _ _ h => h) (.inl ⟨by rfl, ?_⟩) (by assumption) ?_
  rotate_left
  · (intro W hSw; (try dsimp only at hSw); go_simp; try with_reducible rfl)
  try simp only [lA, lB, lC, Act.put, lD, lE, lF]
  refine wpAnyH_take (i := 11) (v := ?_) rfl (by kernel_rfl) (by kernel_rfl) (by kernel_rfl) (fun _ _ _ h => h) (.inl ⟨by rfl, ?_⟩) (by assumption) ?_
  rotate_left
  · (intro W hSw; (try dsimp only at hSw); go_simp; try with_reducible rfl)
  try simp only [lA, lB, lC, Act.put, lD, lE, lF]
  refine wpAnyH_take (i := 12) (v := ?_) rfl (by kernel_rfl) (by kernel_rfl) (by kernel_rfl) (fun _ _ _ h => h) (.inl ⟨by rfl, ?_⟩) (by assumption) ?_
  rotate_left
  · (intro W hSw; (try dsimp only at hSw); go_simp; try with_reducible rfl)
  try simp only [lA, lB, lC, Act.put, lD, lE, lF]
  refine wpAnyH_take (i := 15) (v := ?_) rfl (by kernel_rfl) (by kernel_rfl) (by kernel_rfl) (fun _ _ _ h => h) (.inl ⟨by rfl, ?_⟩) (by assumption) ?_
  rotate_left
  · (intro W hSw; (try dsimp only at hSw); go_simp; try with_reducible rfl)
  try simp only [lA, lB, lC, Act.put, lD, lE, lF]
  refine wpAnyH_take (i := 16) (v := ?_) rfl (by kernel_rfl) (by kernel_rfl) (by kernel_rfl) (fun _ _ _ h => h) (.inl ⟨by rfl, ?_⟩) (by assumption) ?_
  rotate_left
  · (intro W hSw; (try dsimp only at hSw); go_simp; try with_reducible rfl)
  try simp only [lA, lB, lC, Act.put, lD, lE, lF]
  refine wpAnyH_take (i := 17) (v := ?_) rfl (by kernel_rfl) (by kernel_rfl) (by kernel_rfl) (fun _ _ _ h => h) (.inl ⟨by rfl, ?_⟩) (by assumption) ?_
  rotate_left
  · (intro W hSw; (try dsimp only at hSw); go_simp; try with_reducible rfl)
  try simp only [lA, lB, lC, Act.put, lD, lE, lF]
  iterate 4
   all_goals
    first
    | have _ := m5; have _ := m13; have _ := m14; refine wpAnyH_ready (rs := [18]) (by kernel_rfl) (by simp) ?_; refine AllReadyH.cons rfl (fun K hK => have m18 := Hd trivial; ?_) AllReadyH.nil
    | have _ := m5; have _ := m13; have _ := m18; refine wpAnyH_ready (rs := [14]) (by kernel_rfl) (by simp) ?_; refine AllReadyH.cons rfl (fun K hK => have m14 := Hd trivial; ?_) AllReadyH.nil
    | have _ := m5; have _ := m13; refine wpAnyH_ready (rs := [14, 18]) (by kernel_rfl) (by simp) ?_; refine AllReadyH.cons rfl (fun K hK => have m14 := Hd trivial; ?_) (AllReadyH.cons rfl (fun K hK => have m18 := Hd trivial; ?_) AllReadyH.nil)
    | have _ := m5; have _ := m18; refine wpAnyH_ready (rs := [13]) (by kernel_rfl) (by simp) ?_; refine AllReadyH.cons rfl (fun K hK => have m13 := Hd trivial; ?_) AllReadyH.nil
    | have _ := m13; have _ := m18; refine wpAnyH_ready (rs := [5]) (by kernel_rfl) (by simp) ?_; refine AllReadyH.cons rfl (fun K hK => have m5 := Hd trivial; ?_) AllReadyH.nil
    | have _ := m5; refine wpAnyH_ready (rs := [13, 18]) (by kernel_rfl) (by simp) ?_; refine AllReadyH.cons rfl (fun K hK => have m13 := Hd trivial; ?_) (AllReadyH.cons rfl (fun K hK => have m18 := Hd trivial; ?_) AllReadyH.nil)
    | have _ := m13; refine wpAnyH_ready (rs := [5, 18]) (by kernel_rfl) (by simp) ?_; refine AllReadyH.cons rfl (fun K hK => have m5 := Hd trivial; ?_) (AllReadyH.cons rfl (fun K hK => have m18 := Hd trivial; ?_) AllReadyH.nil)
    | have _ := m18; refine wpAnyH_ready (rs := [5, 13]) (by kernel_rfl) (by simp) ?_; refine AllReadyH.cons rfl (fun K hK => have m5 := Hd trivial; ?_) (AllReadyH.cons rfl (fun K hK => have m13 := Hd trivial; ?_) AllReadyH.nil)
    | refine wpAnyH_ready (rs := [5, 13, 18]) (by kernel_rfl) (by simp) ?_; refine AllReadyH.cons rfl (fun K hK => have m5 := Hd trivial; ?_) (AllReadyH.cons rfl (fun K hK => have m13 := Hd trivial; ?_) (AllReadyH.cons rfl (fun K hK => have m18 := Hd trivial; ?_) AllReadyH.nil))
   all_goals
    first
    | refine aX rfl (.tmp 217) (.tmp 225) 110 rfl W2.heap.size 148 i0 (.agg #[.string ⟨#[]⟩, .int .i64 0]) 24 Tryz.underlying110 hi0 hz0 hz1 hz2 rfl (.slice (some ⟨W2.heap.size, 0, none⟩) 0 0) 0 [] ?_ ?_ 0 (.slice a L cap) L (flatE E) ?_ ?_ ?_ ?_ ?_ ?_ ?_
      · simp [Act.eval, Act.put]; done
      · exact (own_empty _ _ _ _ rfl (Nat.le_refl _)).drew
      · simp [Act.eval, Act.put]; done
      · exact HSRC.out _ (‹Mo B W2 _ ∧ _›).1
      · exact fun u hu => flatE_one _ u hu
      · unfold maxLen; omega
      · omega
      · exact (‹Mo B W2 _ ∧ _›).1.size
      intro v5 w5 hown5 hgrow5 hbel5
      have hm5 : Mo B W2 w5 := (‹Mo B W2 _ ∧ _›).1.grow hbel5
      have hq5 : w5.heap[B]? = W2.heap[B]? := (hbel5.block B hBL).trans (Below.block (((Below.refl W2.heap.size W2).drew).alloc (Nat.le_refl _) _) B hBL)
    | refine aX rfl (.tmp 217) (.tmp 225) 110 rfl W2.heap.size 148 i0 (.agg #[.string ⟨#[]⟩, .int .i64 0]) 24 Tryz.underlying110 hi0 hz0 hz1 hz2 rfl (.slice (some ⟨W2.heap.size, 0, none⟩) 0 0) 0 [] ?_ ?_ 0 (.slice a L cap) L (flatE E) ?_ ?_ ?_ ?_ ?_ ?_ ?_
      · simp [Act.eval, Act.put]; done
      · exact ((own_empty _ _ _ _ rfl (Nat.le_refl _)).below2 ((Below.refl _ _).alloc (Nat.le_refl _) _)).drew
      · simp [Act.eval, Act.put]; done
      · exact HSRC.out _ (‹Mo B W2 _ ∧ _›).1
      · exact fun u hu => flatE_one _ u hu
      · unfold maxLen; omega
      · omega
      · exact (‹Mo B W2 _ ∧ _›).1.size
      intro v5 w5 hown5 hgrow5 hbel5
      have hm5 : Mo B W2 w5 := (‹Mo B W2 _ ∧ _›).1.grow hbel5
      have hq5 : w5.heap[B]? = W2.heap[B]? := (hbel5.block B hBL).trans (Below.block ((((Below.refl W2.heap.size W2).drew).alloc (Nat.le_refl _) _).alloc (by simp) _) B hBL)
    | refine aX rfl (.tmp 217) (.tmp 225) 110 rfl W2.heap.size 148 i0 (.agg #[.string ⟨#[]⟩, .int .i64 0]) 24 Tryz.underlying110 hi0 hz0 hz1 hz2 rfl (.slice (some ⟨(W2.heap.size + 1), 0, none⟩) 0 0) 0 [] ?_ ?_ 0 (.slice a L cap) L (flatE E) ?_ ?_ ?_ ?_ ?_ ?_ ?_
      · simp [Act.eval, Act.put]; done
      · exact (own_empty _ _ _ _ (by simp) (by simp)).drew
      · simp [Act.eval, Act.put]; done
      · exact HSRC.out _ (‹Mo B W2 _ ∧ _›).1
      · exact fun u hu => flatE_one _ u hu
      · unfold maxLen; omega
      · omega
      · exact (‹Mo B W2 _ ∧ _›).1.size
      intro v5 w5 hown5 hgrow5 hbel5
      have hm5 : Mo B W2 w5 := (‹Mo B W2 _ ∧ _›).1.grow hbel5
      have hq5 : w5.heap[B]? = W2.heap[B]? := (hbel5.block B hBL).trans (Below.block ((((Below.refl W2.heap.size W2).drew).alloc (Nat.le_refl _) _).alloc (by simp) _) B hBL)
    | simp only [lA, lB, lC]; go_simp
    refine hK.out _ _ ?_ (fun hHeld => ?_)
    · (try dsimp only); first | with_reducible assumption | exact Sy.below ((Below.refl _ _).alloc (‹Mo B W2 _ ∧ _›).1.size _) hTL hBL ‹Mo B W2 _ ∧ _› | exact Sy.below hbel5 hTL hBL ‹Mo B W2 _ ∧ _›
    clear hK K
    try simp only [lA, lB, lC, Act.put, lD, lE, lF]
  all_goals
   refine wpAnyH_ready (rs := [19]) (by kernel_rfl) (by simp) ?_
   refine AllReadyH.cons rfl (fun K hK => ?_) AllReadyH.nil
   first
   | refine aX rfl (.tmp 226) (.tmp 230) 110 rfl W2.heap.size 148 i0 (.agg #[.string ⟨#[]⟩, .int .i64 0]) 24 Tryz.underlying110 hi0 hz0 hz1 hz2 rfl v5 (0 + L) ([] ++ flatE E) ?_ ?_ 0 (.slice (some ⟨w5.heap.size, 0, none⟩) 1 1) 1 [.string sa, .int .i64 (kx : Int)] ?_ ?_ ?_ ?_ ?_ ?_ ?_
     · simp [Act.eval, Act.put]; done
     · exact hown5.below2 ((Below.refl _ _).alloc (Nat.le_refl _) _)
     · simp [Act.eval, Act.put]; done
     · exact own_one _ _ _ _ _ rfl
     · exact fun u hu => by (simp only [List.mem_cons, List.not_mem_nil, or_false] at hu; rcases hu with rfl | rfl <;> rfl)
     · unfold maxLen; omega
     · omega
     · exact (‹Mo B W2 _ ∧ _›).1.size
     intro v8 w8 hown8 hgrow8 hbel8
     have hq8 : w8.heap[B]? = W2.heap[B]? := (hbel8.block B hBL).trans ((Below.block ((Below.refl _ w5).alloc (Nat.le_refl _) _) B (by have := hm5.size; omega)).trans hq5)
     have hm8 : Mo B W2 w8 := (‹Mo B W2 _ ∧ _›).1.grow hbel8
     obtain ⟨a8, n8, c8, rfl⟩ := own_slice hown8
     have hc8 : w8.cell? ⟨B, kb * 10 + 9, none⟩ = some (.slice a L cap) := (cell_block hq8 _).trans C9.out
   | refine aX rfl (.tmp 226) (.tmp 230) 110 rfl W2.heap.size 148 i0 (.agg #[.string ⟨#[]⟩, .int .i64 0]) 24 Tryz.underlying110 hi0 hz0 hz1 hz2 rfl v5 (0 + L) ([] ++ flatE E) ?_ ?_ 0 (.slice (some ⟨(W2.heap.size + 1), 0, none⟩) 1 1) 1 [.string sa, .int .i64 (kx : Int)] ?_ ?_ ?_ ?_ ?_ ?_ ?_
     · simp [Act.eval, Act.put]; done
     · exact hown5
     · simp [Act.eval, Act.put]; done
     · exact ((own_one _ _ _ _ _ (by simp)).drew.kept hgrow5 (.inr (by simp [Value.ownBlock])))
     · exact fun u hu => by (simp only [List.mem_cons, List.not_mem_nil, or_false] at hu; rcases hu with rfl | rfl <;> rfl)
     · unfold maxLen; omega
     · omega
     · exact (‹Mo B W2 _ ∧ _›).1.size
     intro v8 w8 hown8 hgrow8 hbel8
     have hq8 : w8.heap[B]? = W2.heap[B]? := (hbel8.block B hBL).trans hq5
     have hm8 : Mo B W2 w8 := (‹Mo B W2 _ ∧ _›).1.grow hbel8
     obtain ⟨a8, n8, c8, rfl⟩ := own_slice hown8
     have hc8 : w8.cell? ⟨B, kb * 10 + 9, none⟩ = some (.slice a L cap) := (cell_block hq8 _).trans C9.out
   | refine aX rfl (.tmp 226) (.tmp 230) 110 rfl W2.heap.size 148 i0 (.agg #[.string ⟨#[]⟩, .int .i64 0]) 24 Tryz.underlying110 hi0 hz0 hz1 hz2 rfl v5 (0 + L) ([] ++ flatE E) ?_ ?_ 0 (.slice (some ⟨W2.heap.size, 0, none⟩) 1 1) 1 [.string sa, .int .i64 (kx : Int)] ?_ ?_ ?_ ?_ ?_ ?_ ?_
     · simp [Act.eval, Act.put]; done
     · exact hown5
     · simp [Act.eval, Act.put]; done
     · exact (((own_one _ _ _ _ _ rfl).below2 ((Below.refl _ _).alloc (Nat.le_refl _) _)).drew.kept hgrow5 (.inr (by simp [Value.ownBlock])))
     · exact fun u hu => by (simp only [List.mem_cons, List.not_mem_nil, or_false] at hu; rcases hu with rfl | rfl <;> rfl)
     · unfold maxLen; omega
     · omega
     · exact (‹Mo B W2 _ ∧ _›).1.size
     intro v8 w8 hown8 hgrow8 hbel8
     have hq8 : w8.heap[B]? = W2.heap[B]? := (hbel8.block B hBL).trans hq5
     have hm8 : Mo B W2 w8 := (‹Mo B W2 _ ∧ _›).1.grow hbel8
     obtain ⟨a8, n8, c8, rfl⟩ := own_slice hown8
     have hc8 : w8.cell? ⟨B, kb * 10 + 9, none⟩ = some (.slice a L cap) := (cell_block hq8 _).trans C9.out
   refine hK.out _ _ ?_ (fun hHeld => ?_)
   · (try dsimp only); exact Sy.below hbel8 hTL hBL ‹Mo B W2 _ ∧ _›
   clear hK K
   try simp only [lA, lB, lC, Act.put, lD, lE, lF]
   refine wpAnyH_take (i := 20) (v := ?_) rfl (by kernel_rfl) (by kernel_rfl) (by kernel_rfl) (fun _ _ _ h => h) (.inl ⟨by rfl, ?_⟩) (by assumption) ?_
   rotate_left
   · (intro W hSw; (try dsimp only at hSw); go_simp; try with_reducible rfl)
   try simp only [lA, lB, lC, Act.put, lD, lE, lF]
   refine wpAnyH_take (i := 21) (v := ?_) rfl (by kernel_rfl) (by kernel_rfl) (by kernel_rfl) (fun _ _ _ h => h) (.inl ⟨by rfl, ?_⟩) (by assumption) ?_
   rotate_left
   · (intro W hSw; (try dsimp only at hSw); go_simp; try with_reducible rfl)
   try simp only [lA, lB, lC, Act.put, lD, lE, lF]
   refine wpAnyH_ready (rs := [22]) (by kernel_rfl) (by simp) ?_
   refine AllReadyH.cons rfl (fun K hK => ?_) AllReadyH.nil
   simp only [lA, lB, lC]
   go_simp
   refine hK.out _ _ ?_ (fun hHeld => ?_)
   · (try dsimp only); exact Sy.set hTB ‹Mo B W2 _ ∧ _› _
   clear hK K
   try simp only [lA, lB, lC, Act.put, lD, lE, lF]
   refine wpAnyH_done (by kernel_rfl) ?_ _
   have hRF := (HRF.out.moEq hm8 hq8).set hb2 (show 9 < 10 by omega) (.slice a8 n8 c8) { G2 kb with sl := .slice a8 n8 c8, ents := (G2 kb).ents ++ [(sa, kx)] } rfl (ent_of hown8 (G2 kb) ((G2 kb).ents ++ [(sa, kx)]) (by rw [List.length_append, HG.out, ← HLE.out]; simp) (by rw [flatE_app, List.nil_append, HG.out]; rfl))
   have hMO := (HM1.out.trans hm8).set (i := kb * 10 + 9) (.slice a8 n8 c8)
   clear hown8 hgrow8 hbel8 hown5 hgrow5 hbel5 hm8 hq8 hm5 hq5 hc8
   generalize w8.setCell ⟨B, kb * 10 + 9, none⟩ (.slice a8 n8 c8) = W3 at *
   have ht3 := HT3.out (.slice a8 n8 c8)
   obtain ⟨G3, hG3⟩ : ∃ G3, updG G2 kb { G2 kb with sl := .slice a8 n8 c8, ents := (G2 kb).ents ++ [(sa, kx)] } = G3 := ⟨_, rfl⟩
   rw [hG3] at hRF ht3
   clear hG3 c0 b9 s9
   have x1 := hRF.c1 kx hx2
   rw [(ht3.sok kx _ HX3.out).kind] at x1
   have x6 := hRF.c6 kx hx2
   rw [(ht3.sok kx _ HX3.out).holds] at x6
   dsimp only at x1 x6
   obtain ⟨hv, hhv⟩ : ∃ hv : Int, ((m.holds + 1 : Nat) : Int) = hv := ⟨_, rfl⟩
   have hv1 : 1 ≤ hv := by omega
   have hv2 : hv ≤ 1000001 := by omega
   rw [hhv] at x6
   have s6 := hRF.frozen (kx * 10 + 6)
   have c0 := hRF.cellT
   have HRF3 := Hd hRF
   have HTI3 := Hd ht3
   have HMO3 := Hd hMO
   have HHV := Hd hhv
   clear hRF ht3 hMO hhv
   first
   | rw [HKD.out] at x1
     have s7 := HRF3.out.frozen (kx * 10 + 7)
     have x7 := HRF3.out.c7 kx hx2
     go_wp2_with fail
     refine (HEND.out _ _ ((HRF3.out.set hx2 (show 7 < 10 by omega) (.int .i64 (kb : Int)) { G3 kx with parent := (kb : Int) } rfl (HRF3.out.ents kx hx2)).set hx2 (show 6 < 10 by omega) (.int .i64 (hv - 1)) { (updG G3 kx { G3 kx with parent := (kb : Int) }) kx with holds := hv - 1 } rfl ((HRF3.out.set hx2 (show 7 < 10 by omega) (.int .i64 (kb : Int)) { G3 kx with parent := (kb : Int) } rfl (HRF3.out.ents kx hx2)).ents kx hx2)) (by rw [← HFX.out]; exact HTI3.out.endD HX3.out HKD.out HHV.out kb) ((HMO3.out.set _).set _)).mono ?_
     rintro e w9 ⟨rfl, hs⟩
     have HS := Hd hs
     clear hs
     go_wp2
     go_ret
     exact ⟨rfl, HS.out⟩
   | go_wp2_with fail
     refine (HEND.out _ _ (HRF3.out.set hx2 (show 6 < 10 by omega) (.int .i64 (hv - 1)) { G3 kx with holds := hv - 1 } rfl (HRF3.out.ents kx hx2)) (by rw [← HFX.out]; exact HTI3.out.endF HX3.out HHV.out) (HMO3.out.set _)).mono ?_
     rintro e w9 ⟨rfl, hs⟩
     have HS := Hd hs
     clear hs
     go_wp2
     go_ret
     exact ⟨rfl, HS.out⟩
theorem rf_move_over {w : World} {t B : Nat} {G : Gt} {T : IT.Tr} (h : Trf w t B G T) (hb : HB T 1000000) {kd kb : Nat} (s sa : ByteArray) {n q : IT.Nd} (hd : T kd = some n) (hq : T kb = some q) (hk : n.kind = 1) (hkb : q.kind = 1) {kx i : Nat} {m : IT.Nd} (hf : IT.findN (bs s) n.names = some kx) (hx : T kx = some m) (hi : (G kd).ents[i]? = some (s, kx)) (hi2 : ∀ (j : Nat) (p : ByteArray × Nat), j < i → (G kd).ents[j]? = some p → p.1 ≠ s) (hok : okN (bs sa) = true) (hbe : ¬ (m.kind = 1 ∧ IT.Bel T kx kb)) {kw j : Nat} (hfa : IT.findN (bs sa) q.names = some kw) (hj : (G kb).ents[j]? = some (sa, kw)) (hj2 : ∀ (l : Nat) (p : ByteArray × Nat), l < j → (G kb).ents[l]? = some p → p.1 ≠ sa) {mw : IT.Nd} (hwx : kw ≠ kx) (hw : T kw = some mw) (hkk : mw.kind = 1 ↔ m.kind = 1) (hmw : mw.names = []) :
  Calls Tryz.prog 101 #[.pointer (some ⟨t, 0, none⟩), .int .i64 (kd : Int), .string s, .int .i64 (kb : Int), .string sa] w fun e w' => e = .returned (.int .i64 0) ∧ Stf w t B (fun T' => IT.isMove okN T kd (bs s) kb (bs sa) 0 T') w' := by
 have HI1 := Hd (rY h (kd : Int) hd)
 have HI2 := Hd (rY h (kb : Int) hq)
 obtain ⟨hd1, hd2⟩ := h.snd.1.rng kd n hd
 obtain ⟨hb1, hb2⟩ := h.snd.1.rng kb q hq
 have c0 := h.rep.cellT
 have b1 := h.rep.c1 kd hd2
 rw [(h.ties.sok kd n hd).kind] at b1
 have y1 := h.rep.c1 kb hb2
 rw [(h.ties.sok kb q hq).kind] at y1
 rw [hk] at b1
 rw [hkb] at y1
 obtain ⟨hx1, hx2⟩ := h.snd.1.rng kx m hx
 have HA := Hd (rf_at_some h.rep kd hd2 s hi hi2)
 have HN := Hd (rname_ok sa w)
 rw [hok] at HN
 have b9 := h.rep.c9 kd hd2
 obtain ⟨a, cap, hs, hl1, hl2, hl3⟩ := (h.rep.ents kd hd2).lit
 rw [hs] at b9
 obtain ⟨g, rfl, f1, f2⟩ := hl3 i _ hi
 have hil : i < (G kd).ents.length := (List.getElem?_eq_some_iff.1 hi).1
 have hl40 : (G kd).ents.length ≤ 40 := h.ties.few h.snd.1 kd hd2
 have x1 := h.rep.c1 kx hx2
 rw [(h.ties.sok kx m hx).kind] at x1
 have y9 := h.rep.c9 kb hb2
 obtain ⟨ay, capy, hsy, _, _, hl3y⟩ := (h.rep.ents kb hb2).lit
 rw [hsy] at y9
 have hly40 : (G kb).ents.length ≤ 40 := h.ties.few h.snd.1 kb hb2
 have hly : q.names.length = (G kb).ents.length := by have := (h.ties.sok kb q hq).names.length_eq; unfold ents at this; rw [List.length_map] at this; exact this.symm
 have HA2 := Hd (rf_at_some h.rep kb hb2 sa hj hj2)
 obtain ⟨gy, rfl, f1y, f2y⟩ := hl3y j _ hj
 have hjl : j < (G kb).ents.length := (List.getElem?_eq_some_iff.1 hj).1
 obtain ⟨hw1, hw2⟩ := h.snd.1.rng kw mw hw
 have w1 := h.rep.c1 kw hw2
 rw [(h.ties.sok kw mw hw).kind] at w1
 have z4 : ((kw : Int) == (kx : Int)) = false := by simpa using (show ¬ (kw : Int) = (kx : Int) by omega)
 have m1 : kx < 201 := by omega
 have m2 : (kx : Int) < 201 := by omega
 have m3 : kw < 201 := by omega
 have m4 : (kw : Int) < 201 := by omega
 have w9 := h.rep.c9 kw hw2
 obtain ⟨aw, capw, hsw, _, _, _⟩ := (h.rep.ents kw hw2).lit
 rw [hsw] at w9
 have hlw : (G kw).ents.length = 0 := by have := (h.ties.sok kw mw hw).names.length_eq; unfold ents at this; rw [List.length_map, hmw] at this; exact this
 rw [hlw] at w9
 obtain ⟨hxd, hxb, hxr⟩ := IT.move_ne h.snd hd hq hk hkb hf hx hok hbe
 have x6 := h.rep.c6 kx hx2
 rw [(h.ties.sok kx m hx).holds] at x6
 have s6 := h.rep.frozen (kx * 10 + 6)
 have hle : (m.holds : Int) ≤ 1000000 := by have := hb kx m hx; omega
 have hkx := h.ties.sok kx m hx
 have ht1 := h.ties.set kx (n := { G kx with holds := (m.holds : Int) + 1 }) (m := { m with holds := m.holds + 1 }) ⟨hkx.is, hkx.kind, hkx.mode, hkx.owner, hkx.group, hkx.tty, rfl, hkx.parent, hkx.data, hkx.names⟩
 have e1d : (updG G kx { G kx with holds := (m.holds : Int) + 1 }) kd = G kd := updG_other _ _ (Ne.symm hxd)
 have e1b : (updG G kx { G kx with holds := (m.holds : Int) + 1 }) kb = G kb := updG_other _ _ (Ne.symm hxb)
 obtain ⟨q1, hq1, hq1k, hq1e, gx1, hwb, hwd, gx2, gx3, sd2, gx4, gx5⟩ := IT.move_over h.snd hd hq hk hkb hf hx hok hbe hfa hwx hw hmw
 clear gx1 gx2 gx3 gx4 gx5
 obtain ⟨TF, hTF⟩ : ∃ TF, IT.entT (IT.delT (IT.delT T kd kx (bs s) n m) kb kw (bs sa) q1 mw) kb kx (bs sa) { q1 with names := IT.delN (bs sa) q1.names } (IT.alone kx m) = TF := ⟨_, rfl⟩
 have hmv : ∀ T', IT.NF TF T' → IT.isMove okN T kd (bs s) kb (bs sa) 0 T' := fun T' hnf => by
  unfold IT.isMove
  rw [hd, hq]
  dsimp only
  rw [if_neg (fun hh => hh.elim (fun e => e hk) (fun e => e hkb)), hf]
  dsimp only
  refine ⟨m, hx, ?_⟩
  rw [if_neg (by rw [hok]; intro e; cases e), if_neg hbe, hfa]
  dsimp only
  rw [if_neg hwx]
  refine ⟨mw, hw, ?_⟩
  rw [if_neg (not_not_intro hkk), if_neg (fun e => e hmw)]
  exact ⟨rfl, q1, _, _, hq1, IT.del_at_d, (IT.del_at hxb (Ne.symm hwx)).trans (IT.del_at_x hxd), by rw [hTF]; exact hnf⟩
 rw [hTF] at sd2
 have HEND : Hid (∀ G5 w5, Rf w5 t B G5 → Tie G5 TF → Mo B w w5 → Calls Tryz.prog 106 #[.pointer (some ⟨t, 0, none⟩)] w5 fun e w' => e = .returned (.tuple #[]) ∧ Stf w t B (fun T' => IT.isMove okN T kd (bs s) kb (bs sa) 0 T') w') := Hd (fun G5 w5 hr ht hm => (rf_gone hr ht sd2).mono (by
  rintro e w' ⟨rfl, hs⟩
  exact ⟨rfl, (Stf.pre hm hs).imp hmv⟩))
 have hoq := h.snd.1.ord kb q hq
 have hnq : kd = kb → n = q := fun e => by subst e; rw [hd] at hq; exact oI hq
 have hns : bs s ≠ bs sa ∨ kd ≠ kb := by
  by_cases e : kd = kb
  · refine .inl fun e2 => hwx ?_
    have := hnq e
    subst this
    rw [e2, hfa] at hf
    exact oI hf
  · exact .inr e
 have hna0 : ∃ na, (IT.upd (IT.upd (IT.upd T kx (some { m with holds := m.holds + 1 })) kw (some (IT.alone kw mw))) kb (some { q with names := IT.delN (bs sa) q.names })) kd = some na ∧ (na = if kd = kb then { q with names := IT.delN (bs sa) q.names } else n) ∧ IT.Ord na.names ∧ IT.findN (bs s) na.names = some kx := by
  by_cases e : kd = kb
  · refine ⟨_, upd_eq e, (if_pos e).symm, IT.ord_del hoq _, IT.find_of (IT.ord_del hoq _) (List.mem_filter.2 ⟨?_, ?_⟩)⟩
    · have := hnq e
      subst this
      exact IT.find_mem hf
    · simpa using hns.resolve_right (fun hh => hh e)
  · exact ⟨n, by rw [upd_ne e, upd_ne (Ne.symm hwd), upd_ne (Ne.symm hxd)]; exact hd, (if_neg e).symm, h.snd.1.ord kd n hd, hf⟩
 obtain ⟨na, hna, hnae, hoa, hfn⟩ := hna0
 have hqb0 : ∃ qb, (IT.upd (IT.upd (IT.upd (IT.upd T kx (some { m with holds := m.holds + 1 })) kw (some (IT.alone kw mw))) kb (some { q with names := IT.delN (bs sa) q.names })) kd (some { na with names := IT.delN (bs s) na.names })) kb = some qb ∧ qb = if kd = kb then { na with names := IT.delN (bs s) na.names } else { q with names := IT.delN (bs sa) q.names } := by
  by_cases e : kd = kb
  · exact ⟨_, upd_eq e.symm, (if_pos e).symm⟩
  · exact ⟨_, by rw [upd_ne (Ne.symm e), upd_eq rfl], (if_neg e).symm⟩
 obtain ⟨qb, hqb, hqbe⟩ := hqb0
 have HFX0 := move_eq_some (S := T) (mh := (some { m with holds := m.holds + 1 })) (nm := bs s) (ns := bs sa) (m := m) (mw := mw) hxd hxb hwx hwd hwb hnq hnae hqbe hq1e
 rw [hTF] at HFX0
 have hx3 : (IT.upd (IT.upd (IT.upd (IT.upd (IT.upd T kx (some { m with holds := m.holds + 1 })) kw (some (IT.alone kw mw))) kb (some { q with names := IT.delN (bs sa) q.names })) kd (some { na with names := IT.delN (bs s) na.names })) kb (some { qb with names := IT.insN (bs sa) kx qb.names })) kx = (some { m with holds := m.holds + 1 }) := by
  rw [upd_ne hxb, upd_ne hxd, upd_ne hxb, upd_ne (Ne.symm hwx), upd_eq rfl]
 have hqT : (IT.upd (IT.upd T kx (some { m with holds := m.holds + 1 })) kw (some (IT.alone kw mw))) kb = some q := by rw [upd_ne (Ne.symm hwb), upd_ne (Ne.symm hxb)]; exact hq
 have hwT : (IT.upd T kx (some { m with holds := m.holds + 1 })) kw = some mw := by rw [upd_ne hwx]; exact hw
 have h4a : (updG G kx { G kx with holds := (m.holds : Int) + 1 } kd).ents.length ≤ 40 := by rw [e1d]; exact hl40
 have h4b : (updG G kx { G kx with holds := (m.holds : Int) + 1 } kb).ents.length ≤ 40 := by rw [e1b]; exact hly40
 have hj1 : (updG G kx { G kx with holds := (m.holds : Int) + 1 } kb).ents[j]? = some (sa, kw) := by rw [e1b]; exact hj
 have hL3 : ((G kb).ents.length : Int) - 1 < 40 := by omega
 have hL4 : (1 : Int) ≤ (G kb).ents.length := by omega
 have hrfq : ∀ k, Rf ((w.drewN k).setCell ⟨B, kx * 10 + 6, none⟩ (.int .i64 ((m.holds : Int) + 1))) t B (updG G kx { G kx with holds := (m.holds : Int) + 1 }) := fun k =>
  (h.rep.below (belowDrewN (Below.refl _ _) k)).set hx2 (show 6 < 10 by omega) (.int .i64 ((m.holds : Int) + 1)) { G kx with holds := (m.holds : Int) + 1 } rfl ((h.rep.below (belowDrewN (Below.refl _ _) k)).ents kx hx2)
 have hmoq : ∀ k, Mo B w ((w.drewN k).setCell ⟨B, kx * 10 + 6, none⟩ (.int .i64 ((m.holds : Int) + 1))) := fun k => (Mo.of (belowDrewN (Below.refl _ _) k)).set _
 obtain ⟨G1, hG1⟩ : ∃ G1, updG G kx { G kx with holds := (m.holds : Int) + 1 } = G1 := ⟨_, rfl⟩
 rw [hG1] at ht1 h4a h4b hj1
 rw [hG1] at hrfq
 have HRFq := Hd hrfq
 have HMq := Hd hmoq
 have HT1 := Hd ht1
 have HNa := Hd hna
 have HOa := Hd hoa
 have HFa := Hd hfn
 have H4c := Hd h4a
 have H4d := Hd h4b
 have HJ := Hd hj1
 have HQB := Hd hqb
 have HX3 := Hd hx3
 have HOQ := Hd hoq
 have HQT := Hd hqT
 have HWT := Hd hwT
 have HFAA := Hd hfa
 have HWB := Hd hwb
 generalize (G kd).ents.length = L0 at *
 generalize (G kb).ents.length = Ly at *
 clear hrfq hmoq ht1 hna hoa h4a h4b hqb hx3 hTF hmv hqbe hq1 hq1k hq1e hkx e1d e1b hG1 hxd hxb hxr hfa hly hl1 hl2 hl3 hs f1 hsy hl3y hi hi2 sd2 hnq hns hnae hfn hoq hqT hwT hj1 hj hj2 f1y hsw hlw hwb hwd hmw hwx
 by_cases hmk : m.kind = 1
 case' pos =>
  have hkw : mw.kind = 1 := hkk.2 hmk
  rw [hkw] at w1
  have HFX : Hid (IT.upd (IT.upd (IT.upd (IT.upd (IT.upd (IT.upd T kx (some { m with holds := m.holds + 1 })) kw (some (IT.alone kw mw))) kb (some { q with names := IT.delN (bs sa) q.names })) kd (some { na with names := IT.delN (bs s) na.names })) kb (some { qb with names := IT.insN (bs sa) kx qb.names })) kx (some { m with parent := kb }) = TF) := Hd (by
   rw [← HFX0]; unfold IT.under; rw [if_pos hmk])
  have HKD := Hd hmk
  have HKW := Hd hkw
  have hbe := fun hh => hbe ⟨hmk, hh⟩
  have HWI : Hid (Calls Tryz.prog 124 #[.pointer (some ⟨t, 0, none⟩), .int .i64 (kb : Int), .int .i64 (kx : Int)] w fun e w' => e = .returned (.bool false) ∧ w = w') := Hd ((rf_within h kb kx hq hkb).mono (by
   rintro e w' ⟨c, rfl, hc, rfl⟩
   cases c with
   | false => exact ⟨rfl, rfl⟩
   | true => exact absurd (hc.1 rfl) hbe))
  rw [hmk] at x1
  clear h hd hq hk hkb hf hx hok hmk hbe HFX0 hb hw hkk hkw
  go_enter Tryz.func101, Tryz.ntmps101
  go_wp2_with fail
  refine HI1.out.mono ?_
  rintro e wz ⟨rfl, rfl⟩
  go_wp2_with fail
  refine HI2.out.mono ?_
  rintro e wz ⟨rfl, rfl⟩
  go_wp2_with fail
  refine HA.out.mono ?_
  rintro e wz ⟨rfl, rfl⟩
  go_wp2_with fail
  refine HN.out.mono ?_
  rintro e wz ⟨rfl, rfl⟩
  go_wp2_with fail
  refine HWI.out.mono ?_
  rintro e wz ⟨rfl, rfl⟩
  go_wp2_with fail
  refine HA2.out.mono ?_
  rintro e wz ⟨rfl, rfl⟩
  go_upto_region 23 with fail
  go_quiet (fail)
  rename_i nq
  go_upto_region 28 with fail
  generalize (Ly : Int) - 1 = r at *
  have hLC : (40 ≤ r) = False := eq_false (by omega)
  have hLD : (r ≥ 40) = False := eq_false (by omega)
  go_upto_region 31 with fail
 case' neg =>
  have z6 : (mw.kind == 1) = false := by
   have : ¬ mw.kind = 1 := fun e => hmk (hkk.1 e)
   simpa using this
  have HFX : Hid (IT.upd (IT.upd (IT.upd (IT.upd (IT.upd (IT.upd T kx (some { m with holds := m.holds + 1 })) kw (some (IT.alone kw mw))) kb (some { q with names := IT.delN (bs sa) q.names })) kd (some { na with names := IT.delN (bs s) na.names })) kb (some { qb with names := IT.insN (bs sa) kx qb.names })) kx (some m) = TF) := Hd (by
   rw [← HFX0]; unfold IT.under; rw [if_neg hmk])
  have HNW : Hid (¬ mw.kind = 1) := Hd (fun e => hmk (hkk.1 e))
  have z2 : (m.kind == 1) = false := by simpa using hmk
  clear h hd hq hk hkb hf hx hok hmk hbe HFX0 hb hw hkk
  go_enter Tryz.func101, Tryz.ntmps101
  go_wp2_with fail
  refine HI1.out.mono ?_
  rintro e wz ⟨rfl, rfl⟩
  go_wp2_with fail
  refine HI2.out.mono ?_
  rintro e wz ⟨rfl, rfl⟩
  go_wp2_with fail
  refine HA.out.mono ?_
  rintro e wz ⟨rfl, rfl⟩
  go_wp2_with fail
  refine HN.out.mono ?_
  rintro e wz ⟨rfl, rfl⟩
  go_wp2_with fail
  refine HA2.out.mono ?_
  rintro e wz ⟨rfl, rfl⟩
  go_upto_region 23 with fail
  go_quiet (fail)
  rename_i nq
  go_upto_region 28 with fail
  generalize (Ly : Int) - 1 = r at *
  have hLC : (40 ≤ r) = False := eq_false (by omega)
  have hLD : (r ≥ 40) = False := eq_false (by omega)
  go_upto_region 31 with fail
 all_goals
  clear c0 b1 y1 x1 b9 y9 x6 s6 f2 w1 w9 f2y
  have hrf := HRFq.out nq
  have hmo := HMq.out nq
  clear HRFq HMq
  generalize (w.drewN nq).setCell ⟨B, kx * 10 + 6, none⟩ (.int .i64 ((m.holds : Int) + 1)) = W1 at *
  have c0 := hrf.cellT
  have y9 := hrf.c9 kb hb2
  obtain ⟨ay, capy, hsy, _, _, hl3y⟩ := (hrf.ents kb hb2).lit
  rw [hsy] at y9
  obtain ⟨gy, rfl, _, f2y⟩ := hl3y j _ HJ.out
  have hjl1 : j < (G1 kb).ents.length := (List.getElem?_eq_some_iff.1 HJ.out).1
  have hjl2 := H4d.out
  obtain ⟨L1, hL1⟩ : ∃ L1, (G1 kb).ents.length = L1 := ⟨_, rfl⟩
  rw [hL1] at y9 hjl1 hjl2
  have w1 := hrf.c1 kw hw2
  rw [(HT1.out.sok kw mw HWT.out).kind] at w1
  clear hsy hl3y hL1
 case' pos =>
  rw [HKW.out] at w1
  have s7 := hrf.frozen (kw * 10 + 7)
  have w7 := hrf.c7 kw hw2
  have HRFp := Hd (hrf.set hw2 (show 7 < 10 by omega) (.int .i64 (kw : Int)) { G1 kw with parent := (kw : Int) } rfl (hrf.ents kw hw2))
  have HMp := Hd (hmo.set (i := kw * 10 + 7) (.int .i64 (kw : Int)))
  have htb := HT1.out.par HWT.out HKW.out kw
  have hex : ({ mw with parent := kw } : IT.Nd) = IT.alone kw mw := by unfold IT.alone; rw [if_pos HKW.out]
  rw [hex] at htb
  have eb : (updG G1 kw { G1 kw with parent := (kw : Int) }) kb = G1 kb := updG_other _ _ (Ne.symm HWB.out)
  have h4c : ((updG G1 kw { G1 kw with parent := (kw : Int) }) kd).ents.length ≤ 40 := by
   by_cases e : kd = kw
   · subst e; rw [updG_same]; exact H4c.out
   · rw [updG_other _ _ e]; exact H4c.out
  have h4d := H4d.out
  have hj1 := HJ.out
  rw [← eb] at h4d hj1
  clear hrf hmo
  have HTb0 := Hd htb
  have H4e := Hd h4c
  have H4f := Hd h4d
  have HJ1 := Hd hj1
  clear htb h4c h4d hj1 eb hex
  go_wp2_with fail
  have hrfb := HRFp.out
  have hmob := HMp.out
  clear c0 y9 f2y w1 w7 s7 HRFp HMp
  generalize W1.setCell ⟨B, kw * 10 + 7, none⟩ (.int .i64 (kw : Int)) = Wb at *
  obtain ⟨Gb, hGb⟩ : ∃ Gb, updG G1 kw { G1 kw with parent := (kw : Int) } = Gb := ⟨_, rfl⟩
  have htb := HTb0.out
  have h4c := H4e.out
  have h4d := H4f.out
  have hj1 := HJ1.out
  rw [hGb] at hrfb htb h4c h4d hj1
  clear hGb HTb0 H4e H4f HJ1 HT1 HJ H4c H4d
 case' neg =>
  have HRFp := Hd hrf
  have HMp := Hd hmo
  clear hrf hmo
  go_wp2_with fail
  have hrfb := HRFp.out
  have hmob := HMp.out
  have htb := HT1.out
  have hex : IT.upd (IT.upd T kx (some { m with holds := m.holds + 1 })) kw (some (IT.alone kw mw)) = IT.upd T kx (some { m with holds := m.holds + 1 }) := by
   unfold IT.alone; rw [if_neg HNW.out]; exact upd_self HWT.out
  rw [← hex] at htb
  have h4c := H4c.out
  have h4d := H4d.out
  have hj1 := HJ.out
  clear c0 y9 f2y w1 HRFp HMp hex HT1 HJ H4c H4d
  generalize G1 = Gb at *
 all_goals
  have HRFb := Hd hrfb
  have HMb := Hd hmob
  have HTb := Hd htb
  have H4g := Hd h4c
  have H4h := Hd h4d
  have HJ2 := Hd hj1
  clear hrfb hmob htb h4c h4d hj1
  refine (rf_without HRFb.out kb j hb2 (List.getElem?_eq_some_iff.1 HJ2.out).1 H4h.out).mono ?_
  rintro e Wa ⟨rfl, va, hrfa, hmoa⟩
  have hta := HTb.out.less2 HOQ.out HQT.out sa va HJ2.out HFAA.out
  have HMa := Hd (HMb.out.trans hmoa)
  have h4a := less_few (d := kb) (i := j) (v := va) kd H4g.out
  have h4b := less_few (d := kb) (i := j) (v := va) kb H4h.out
  obtain ⟨Ga, hGa⟩ : ∃ Ga, updG Gb kb { Gb kb with sl := va, ents := (Gb kb).ents.take j ++ (Gb kb).ents.drop (j + 1) } = Ga := ⟨_, rfl⟩
  rw [hGa] at hrfa hta h4a h4b
  have HRFa := Hd hrfa
  have HTa := Hd hta
  have H4a := Hd h4a
  have H4b := Hd h4b
  clear hrfa hmoa hta h4a h4b hGa
  clear HJ2 H4g H4h HMb HRFb HTb
  go_wp2_with fail
  obtain ⟨i2, hi3, hi4⟩ := HTa.out.find2 HNa.out HOa.out HFa.out
  refine (rf_at_some HRFa.out kd hd2 s hi3 hi4).mono ?_
  rintro e wz ⟨rfl, rfl⟩
  have HLB := Hd (fun (v : Value) => less_few (G := Ga) (d := kd) (i := i2) (v := v) kb H4b.out)
  have HT2 := Hd (fun v => HTa.out.less2 HOa.out HNa.out s v hi3 HFa.out)
  have hwo := rf_without HRFa.out kd i2 hd2 (List.getElem?_eq_some_iff.1 hi3).1 H4a.out
  clear hi3 hi4
  have HWO := Hd hwo
  clear hwo
  go_wp2_with fail
  refine HWO.out.mono ?_
  rintro e W2 ⟨rfl, v2, hrf, hmo2⟩
  have HM1 := Hd (HMa.out.trans hmo2)
  have ht2 := HT2.out v2
  have hl40 := HLB.out v2
  obtain ⟨G2, hG2⟩ : ∃ G2, updG Ga kd { Ga kd with sl := v2, ents := (Ga kd).ents.take i2 ++ (Ga kd).ents.drop (i2 + 1) } = G2 := ⟨_, rfl⟩
  rw [hG2] at hrf ht2 hl40
  have HTI2 := Hd ht2
  clear hG2 hmo2 ht2
  go_upto_region 37 with fail
  obtain ⟨i0, hi0, hz0, hz1, hz2⟩ := info_parts info_entry
  have HT3 := Hd (fun v => HTI2.out.more HQB.out (x := kx) sa v)
  obtain ⟨E, hE1⟩ : ∃ E, (G2 kb).ents = E := ⟨_, rfl⟩
  obtain ⟨a, cap, hs1, _, _, _⟩ := (hrf.ents kb hb2).lit
  obtain ⟨L, hL⟩ : ∃ L, E.length = L := ⟨_, rfl⟩
  rw [hE1, hL] at hs1
  rw [hE1, hL] at hl40
  have hL2 : L < 41 := by omega
  have HLE := Hd hL
  have HG := Hd hE1
  have HRF := Hd hrf
  have hBL := hrf.ltB
  have hTL := hrf.ltT
  have hTB := hrf.ne
  have c0 := hrf.cellT
  have b9 := hrf.c9 kb hb2
  rw [hs1] at b9
  have C9 := Hd b9
  have s9 := hrf.frozen (kb * 10 + 9)
  have HSRC : Hid (∀ W', Mo B W2 W' → W'.ownsRow 0 148 2 (.slice a L cap) L (flatE E)) := Hd (fun W' hm => by
   have := EntAt.mo HRF.out (HRF.out.ents kb hb2) hm
   unfold EntAt at this
   rw [hs1, hE1, HLE.out] at this
   rw [← HLE.out] at this ⊢
   exact this)
  have n1 : kb < 201 := by omega
  have n2 : (kb : Int) < 201 := by omega
  clear hrf hs1 hE1 hL hl40
  refine wp_region_held_drew (S := (fun W' => Mo B W2 W' ∧ W'.cell? ⟨t, 0, none⟩ = some (.slice (some ⟨B, 0, none⟩) 201 201) ∧ W'.frozen? ⟨B, kb * 10 + 9, none⟩ = false)) (by kernel_rfl) (Sy.below (Below.refl _ _).drew hTL hBL (Sy.start HRF.out _)) (fun hHeld => ?_)
  refine wpAnyH_take (i := 0) (v := ?_) rfl (by kernel_rfl) (by kernel_rfl) (by kernel_rfl) (fun _ _ _ h => h) (.inl ⟨by rfl, ?_⟩) (by assumption) ?_
  rotate_left
  · (intro W hSw; (try dsimp only at hSw); go_simp; try with_reducible rfl)
  try simp only [lA, lB, lC, Act.put, lD, lE, lF]
  refine wpAnyH_take (i := 1) (v := ?_) rfl (by kernel_rfl) (by kernel_rfl) (by kernel_rfl) (fun _ _ _ h => h) (.inl ⟨by rfl, ?_⟩) (by assumption) ?_
  rotate_left
  · (intro W hSw; (try dsimp only at hSw); go_simp; try with_reducible rfl)
  try simp only [lA, lB, lC, Act.put, lD, lE, lF]
  refine wpAnyH_take (i := 2) (v := ?_) rfl (by kernel_rfl) (by kernel_rfl) (by kernel_rfl) (fun _ _ _ h => h) (.inl ⟨by rfl, ?_⟩) (by assumption) ?_
  rotate_left
  · (intro W hSw; (try dsimp only at hSw); go_simp; try with_reducible rfl)
  try simp only [lA, lB, lC, Act.put, lD, lE, lF]
  refine wpAnyH_take (i := 3) (v := ?_) rfl (by kernel_rfl) (by kernel_rfl) (by kernel_rfl) (fun _ _ _ h => h) (.inl ⟨by rfl, ?_⟩) (by assumption) ?_
  rotate_left
  · (intro W hSw; (try dsimp only at hSw); go_simp; try with_reducible rfl)
  try simp only [lA, lB, lC, Act.put, lD, lE, lF]
  refine wpAnyH_take (i := 4) (v := ?_) rfl (by kernel_rfl) (by kernel_rfl) (by kernel_rfl) (fun _ _ _ h => h) (.inl ⟨by rfl, ?_⟩) (by assumption) ?_
  rotate_left
  · (intro W hSw; (try dsimp only at hSw); go_simp; try with_reducible rfl)
  try simp only [lA, lB, lC, Act.put, lD, lE, lF]
  refine wpAnyH_take (i := 6) (v := ?_) rfl (by kernel_rfl) (by kernel_rfl) (by kernel_rfl) (fun _ _ _ h => h) (.inl ⟨by rfl, ?_⟩) (by assumption) ?_
  rotate_left
  · (intro W hSw; (try dsimp only at hSw); go_simp; try with_reducible rfl)
  try simp only [lA, lB, lC, Act.put, lD, lE, lF]
  refine wpAnyH_take (i := 7) (v := ?_) rfl (by kernel_rfl) (by kernel_rfl) (by kernel_rfl) (fun _ _ _ h => h) (.inl ⟨by rfl, ?_⟩) (by assumption) ?_
  rotate_left
  · (intro W hSw; (try dsimp only at hSw); go_simp; try with_reducible rfl)
  try simp only [lA, lB, lC, Act.put, lD, lE, lF]
  refine wpAnyH_take (i := 8) (v := ?_) rfl (by kernel_rfl) (by kernel_rfl) (by kernel_rfl) (fun _ _ _ h => h) (.inl ⟨by rfl, ?_⟩) (by assumption) ?_
  rotate_left
  · (intro W hSw; (try dsimp only at hSw); go_simp; try with_reducible rfl)
  try simp only [lA, lB, lC, Act.put, lD, lE, lF]
  refine wpAnyH_take (i := 9) (v := ?_) rfl (by kernel_rfl) (by kernel_rfl) (by kernel_rfl) (fun _ _ _ h => h) (.inl ⟨by rfl, ?_⟩) (by assumption) ?_
  rotate_left
  · (intro W hSw; (try dsimp only at hSw); go_simp; try with_reducible rfl)
  try simp only [lA, lB, lC, Act.put, lD, lE, lF]
  refine wpAnyH_take (i := 10) (v := ?_) rfl (by kernel_rfl) (by kernel_rfl) (by kernel_rfl) (fun _ _ _ h => h) (.inl ⟨by rfl, ?_⟩) (by assumption) ?_
  rotate_left
  · (intro W hSw; (try dsimp only at hSw); go_simp; try with_reducible rfl)
  try simp only [lA, lB, lC, Act.put, lD, lE, lF]
  refine wpAnyH_take (i := 11) (v := ?_) rfl (by kernel_rfl) (by kernel_rfl) (by kernel_rfl) (fun _ _ _ h => h) (.inl ⟨by rfl, ?_⟩) (by assumption) ?_
  rotate_left
  · (intro W hSw; (try dsimp only at hSw); go_simp; try with_reducible rfl)
  try simp only [lA, lB, lC, Act.put, lD, lE, lF]
  refine wpAnyH_take (i := 12) (v := ?_) rfl (by kernel_rfl) (by kernel_rfl) (by kernel_rfl) (fun _ _ _ h => h) (.inl ⟨by rfl, ?_⟩) (by assumption) ?_
  rotate_left
  · (intro W hSw; (try dsimp only at hSw); go_simp; try with_reducible rfl)
  try simp only [lA, lB, lC, Act.put, lD, lE, lF]
  refine wpAnyH_take (i := 15) (v := ?_) rfl (by kernel_rfl) (by kernel_rfl) (by kernel_rfl) (fun _ _ _ h => h) (.inl ⟨by rfl, ?_⟩) (by assumption) ?_
  rotate_left
  · (intro W hSw; (try dsimp only at hSw); go_simp; try with_reducible rfl)
  try simp only [lA, lB, lC, Act.put, lD, lE, lF]
  refine wpAnyH_take (i := 16) (v := ?_) rfl (by kernel_rfl) (by kernel_rfl) (by kernel_rfl) (fun _ _ _ h => h) (.inl ⟨by rfl, ?_⟩) (by assumption) ?_
  rotate_left
  · (intro W hSw; (try dsimp only at hSw); go_simp; try with_reducible rfl)
  try simp only [lA, lB, lC, Act.put, lD, lE, lF]
  refine wpAnyH_take (i := 17) (v := ?_) rfl (by kernel_rfl) (by kernel_rfl) (by kernel_rfl) (fun _ _ _ h => h) (.inl ⟨by rfl, ?_⟩) (by assumption) ?_
  rotate_left
  · (intro W hSw; (try dsimp only at hSw); go_simp; try with_reducible rfl)
  try simp only [lA, lB, lC, Act.put, lD, lE, lF]
  iterate 4
   all_goals
    first
    | have _ := m5; have _ := m13; have _ := m14; refine wpAnyH_ready (rs := [18]) (by kernel_rfl) (by simp) ?_; refine AllReadyH.cons rfl (fun K hK => have m18 := Hd trivial; ?_) AllReadyH.nil
    | have _ := m5; have _ := m13; have _ := m18; refine wpAnyH_ready (rs := [14]) (by kernel_rfl) (by simp) ?_; refine AllReadyH.cons rfl (fun K hK => have m14 := Hd trivial; ?_) AllReadyH.nil
    | have _ := m5; have _ := m13; refine wpAnyH_ready (rs := [14, 18]) (by kernel_rfl) (by simp) ?_; refine AllReadyH.cons rfl (fun K hK => have m14 := Hd trivial; ?_) (AllReadyH.cons rfl (fun K hK => have m18 := Hd trivial; ?_) AllReadyH.nil)
    | have _ := m5; have _ := m18; refine wpAnyH_ready (rs := [13]) (by kernel_rfl) (by simp) ?_; refine AllReadyH.cons rfl (fun K hK => have m13 := Hd trivial; ?_) AllReadyH.nil
    | have _ := m13; have _ := m18; refine wpAnyH_ready (rs := [5]) (by kernel_rfl) (by simp) ?_; refine AllReadyH.cons rfl (fun K hK => have m5 := Hd trivial; ?_) AllReadyH.nil
    | have _ := m5; refine wpAnyH_ready (rs := [13, 18]) (by kernel_rfl) (by simp) ?_; refine AllReadyH.cons rfl (fun K hK => have m13 := Hd trivial; ?_) (AllReadyH.cons rfl (fun K hK => have m18 := Hd trivial; ?_) AllReadyH.nil)
    | have _ := m13; refine wpAnyH_ready (rs := [5, 18]) (by kernel_rfl) (by simp) ?_; refine AllReadyH.cons rfl (fun K hK => have m5 := Hd trivial; ?_) (AllReadyH.cons rfl (fun K hK => have m18 := Hd trivial; ?_) AllReadyH.nil)
    | have _ := m18; refine wpAnyH_ready (rs := [5, 13]) (by kernel_rfl) (by simp) ?_; refine AllReadyH.cons rfl (fun K hK => have m5 := Hd trivial; ?_) (AllReadyH.cons rfl (fun K hK => have m13 := Hd trivial; ?_) AllReadyH.nil)
    | refine wpAnyH_ready (rs := [5, 13, 18]) (by kernel_rfl) (by simp) ?_; refine AllReadyH.cons rfl (fun K hK => have m5 := Hd trivial; ?_) (AllReadyH.cons rfl (fun K hK => have m13 := Hd trivial; ?_) (AllReadyH.cons rfl (fun K hK => have m18 := Hd trivial; ?_) AllReadyH.nil))
   all_goals
    first
    | refine aX rfl (.tmp 217) (.tmp 225) 110 rfl W2.heap.size 148 i0 (.agg #[.string ⟨#[]⟩, .int .i64 0]) 24 Tryz.underlying110 hi0 hz0 hz1 hz2 rfl (.slice (some ⟨W2.heap.size, 0, none⟩) 0 0) 0 [] ?_ ?_ 0 (.slice a L cap) L (flatE E) ?_ ?_ ?_ ?_ ?_ ?_ ?_
      · simp [Act.eval, Act.put]; done
      · exact (own_empty _ _ _ _ rfl (Nat.le_refl _)).drew
      · simp [Act.eval, Act.put]; done
      · exact HSRC.out _ (‹Mo B W2 _ ∧ _›).1
      · exact fun u hu => flatE_one _ u hu
      · unfold maxLen; omega
      · omega
      · exact (‹Mo B W2 _ ∧ _›).1.size
      intro v5 w5 hown5 hgrow5 hbel5
      have hm5 : Mo B W2 w5 := (‹Mo B W2 _ ∧ _›).1.grow hbel5
      have hq5 : w5.heap[B]? = W2.heap[B]? := (hbel5.block B hBL).trans (Below.block (((Below.refl W2.heap.size W2).drew).alloc (Nat.le_refl _) _) B hBL)
    | refine aX rfl (.tmp 217) (.tmp 225) 110 rfl W2.heap.size 148 i0 (.agg #[.string ⟨#[]⟩, .int .i64 0]) 24 Tryz.underlying110 hi0 hz0 hz1 hz2 rfl (.slice (some ⟨W2.heap.size, 0, none⟩) 0 0) 0 [] ?_ ?_ 0 (.slice a L cap) L (flatE E) ?_ ?_ ?_ ?_ ?_ ?_ ?_
      · simp [Act.eval, Act.put]; done
      · exact ((own_empty _ _ _ _ rfl (Nat.le_refl _)).below2 ((Below.refl _ _).alloc (Nat.le_refl _) _)).drew
      · simp [Act.eval, Act.put]; done
      · exact HSRC.out _ (‹Mo B W2 _ ∧ _›).1
      · exact fun u hu => flatE_one _ u hu
      · unfold maxLen; omega
      · omega
      · exact (‹Mo B W2 _ ∧ _›).1.size
      intro v5 w5 hown5 hgrow5 hbel5
      have hm5 : Mo B W2 w5 := (‹Mo B W2 _ ∧ _›).1.grow hbel5
      have hq5 : w5.heap[B]? = W2.heap[B]? := (hbel5.block B hBL).trans (Below.block ((((Below.refl W2.heap.size W2).drew).alloc (Nat.le_refl _) _).alloc (by simp) _) B hBL)
    | refine aX rfl (.tmp 217) (.tmp 225) 110 rfl W2.heap.size 148 i0 (.agg #[.string ⟨#[]⟩, .int .i64 0]) 24 Tryz.underlying110 hi0 hz0 hz1 hz2 rfl (.slice (some ⟨(W2.heap.size + 1), 0, none⟩) 0 0) 0 [] ?_ ?_ 0 (.slice a L cap) L (flatE E) ?_ ?_ ?_ ?_ ?_ ?_ ?_
      · simp [Act.eval, Act.put]; done
      · exact (own_empty _ _ _ _ (by simp) (by simp)).drew
      · simp [Act.eval, Act.put]; done
      · exact HSRC.out _ (‹Mo B W2 _ ∧ _›).1
      · exact fun u hu => flatE_one _ u hu
      · unfold maxLen; omega
      · omega
      · exact (‹Mo B W2 _ ∧ _›).1.size
      intro v5 w5 hown5 hgrow5 hbel5
      have hm5 : Mo B W2 w5 := (‹Mo B W2 _ ∧ _›).1.grow hbel5
      have hq5 : w5.heap[B]? = W2.heap[B]? := (hbel5.block B hBL).trans (Below.block ((((Below.refl W2.heap.size W2).drew).alloc (Nat.le_refl _) _).alloc (by simp) _) B hBL)
    | simp only [lA, lB, lC]; go_simp
    refine hK.out _ _ ?_ (fun hHeld => ?_)
    · (try dsimp only); first | with_reducible assumption | exact Sy.below ((Below.refl _ _).alloc (‹Mo B W2 _ ∧ _›).1.size _) hTL hBL ‹Mo B W2 _ ∧ _› | exact Sy.below hbel5 hTL hBL ‹Mo B W2 _ ∧ _›
    clear hK K
    try simp only [lA, lB, lC, Act.put, lD, lE, lF]
  all_goals
   refine wpAnyH_ready (rs := [19]) (by kernel_rfl) (by simp) ?_
   refine AllReadyH.cons rfl (fun K hK => ?_) AllReadyH.nil
   first
   | refine aX rfl (.tmp 226) (.tmp 230) 110 rfl W2.heap.size 148 i0 (.agg #[.string ⟨#[]⟩, .int .i64 0]) 24 Tryz.underlying110 hi0 hz0 hz1 hz2 rfl v5 (0 + L) ([] ++ flatE E) ?_ ?_ 0 (.slice (some ⟨w5.heap.size, 0, none⟩) 1 1) 1 [.string sa, .int .i64 (kx : Int)] ?_ ?_ ?_ ?_ ?_ ?_ ?_
     · simp [Act.eval, Act.put]; done
     · exact hown5.below2 ((Below.refl _ _).alloc (Nat.le_refl _) _)
     · simp [Act.eval, Act.put]; done
     · exact own_one _ _ _ _ _ rfl
     · exact fun u hu => by (simp only [List.mem_cons, List.not_mem_nil, or_false] at hu; rcases hu with rfl | rfl <;> rfl)
     · unfold maxLen; omega
     · omega
     · exact (‹Mo B W2 _ ∧ _›).1.size
     intro v8 w8 hown8 hgrow8 hbel8
     have hq8 : w8.heap[B]? = W2.heap[B]? := (hbel8.block B hBL).trans ((Below.block ((Below.refl _ w5).alloc (Nat.le_refl _) _) B (by have := hm5.size; omega)).trans hq5)
     have hm8 : Mo B W2 w8 := (‹Mo B W2 _ ∧ _›).1.grow hbel8
     obtain ⟨a8, n8, c8, rfl⟩ := own_slice hown8
     have hc8 : w8.cell? ⟨B, kb * 10 + 9, none⟩ = some (.slice a L cap) := (cell_block hq8 _).trans C9.out
   | refine aX rfl (.tmp 226) (.tmp 230) 110 rfl W2.heap.size 148 i0 (.agg #[.string ⟨#[]⟩, .int .i64 0]) 24 Tryz.underlying110 hi0 hz0 hz1 hz2 rfl v5 (0 + L) ([] ++ flatE E) ?_ ?_ 0 (.slice (some ⟨(W2.heap.size + 1), 0, none⟩) 1 1) 1 [.string sa, .int .i64 (kx : Int)] ?_ ?_ ?_ ?_ ?_ ?_ ?_
     · simp [Act.eval, Act.put]; done
     · exact hown5
     · simp [Act.eval, Act.put]; done
     · exact ((own_one _ _ _ _ _ (by simp)).drew.kept hgrow5 (.inr (by simp [Value.ownBlock])))
     · exact fun u hu => by (simp only [List.mem_cons, List.not_mem_nil, or_false] at hu; rcases hu with rfl | rfl <;> rfl)
     · unfold maxLen; omega
     · omega
     · exact (‹Mo B W2 _ ∧ _›).1.size
     intro v8 w8 hown8 hgrow8 hbel8
     have hq8 : w8.heap[B]? = W2.heap[B]? := (hbel8.block B hBL).trans hq5
     have hm8 : Mo B W2 w8 := (‹Mo B W2 _ ∧ _›).1.grow hbel8
     obtain ⟨a8, n8, c8, rfl⟩ := own_slice hown8
     have hc8 : w8.cell? ⟨B, kb * 10 + 9, none⟩ = some (.slice a L cap) := (cell_block hq8 _).trans C9.out
   | refine aX rfl (.tmp 226) (.tmp 230) 110 rfl W2.heap.size 148 i0 (.agg #[.string ⟨#[]⟩, .int .i64 0]) 24 Tryz.underlying110 hi0 hz0 hz1 hz2 rfl v5 (0 + L) ([] ++ flatE E) ?_ ?_ 0 (.slice (some ⟨W2.heap.size, 0, none⟩) 1 1) 1 [.string sa, .int .i64 (kx : Int)] ?_ ?_ ?_ ?_ ?_ ?_ ?_
     · simp [Act.eval, Act.put]; done
     · exact hown5
     · simp [Act.eval, Act.put]; done
     · exact (((own_one _ _ _ _ _ rfl).below2 ((Below.refl _ _).alloc (Nat.le_refl _) _)).drew.kept hgrow5 (.inr (by simp [Value.ownBlock])))
     · exact fun u hu => by (simp only [List.mem_cons, List.not_mem_nil, or_false] at hu; rcases hu with rfl | rfl <;> rfl)
     · unfold maxLen; omega
     · omega
     · exact (‹Mo B W2 _ ∧ _›).1.size
     intro v8 w8 hown8 hgrow8 hbel8
     have hq8 : w8.heap[B]? = W2.heap[B]? := (hbel8.block B hBL).trans hq5
     have hm8 : Mo B W2 w8 := (‹Mo B W2 _ ∧ _›).1.grow hbel8
     obtain ⟨a8, n8, c8, rfl⟩ := own_slice hown8
     have hc8 : w8.cell? ⟨B, kb * 10 + 9, none⟩ = some (.slice a L cap) := (cell_block hq8 _).trans C9.out
   refine hK.out _ _ ?_ (fun hHeld => ?_)
   · (try dsimp only); exact Sy.below hbel8 hTL hBL ‹Mo B W2 _ ∧ _›
   clear hK K
   try simp only [lA, lB, lC, Act.put, lD, lE, lF]
   refine wpAnyH_take (i := 20) (v := ?_) rfl (by kernel_rfl) (by kernel_rfl) (by kernel_rfl) (fun _ _ _ h => h) (.inl ⟨by rfl, ?_⟩) (by assumption) ?_
   rotate_left
   · (intro W hSw; (try dsimp only at hSw); go_simp; try with_reducible rfl)
   try simp only [lA, lB, lC, Act.put, lD, lE, lF]
   refine wpAnyH_take (i := 21) (v := ?_) rfl (by kernel_rfl) (by kernel_rfl) (by kernel_rfl) (fun _ _ _ h => h) (.inl ⟨by rfl, ?_⟩) (by assumption) ?_
   rotate_left
   · (intro W hSw; (try dsimp only at hSw); go_simp; try with_reducible rfl)
   try simp only [lA, lB, lC, Act.put, lD, lE, lF]
   refine wpAnyH_ready (rs := [22]) (by kernel_rfl) (by simp) ?_
   refine AllReadyH.cons rfl (fun K hK => ?_) AllReadyH.nil
   simp only [lA, lB, lC]
   go_simp
   refine hK.out _ _ ?_ (fun hHeld => ?_)
   · (try dsimp only); exact Sy.set hTB ‹Mo B W2 _ ∧ _› _
   clear hK K
   try simp only [lA, lB, lC, Act.put, lD, lE, lF]
   refine wpAnyH_done (by kernel_rfl) ?_ _
   have hRF := (HRF.out.moEq hm8 hq8).set hb2 (show 9 < 10 by omega) (.slice a8 n8 c8) { G2 kb with sl := .slice a8 n8 c8, ents := (G2 kb).ents ++ [(sa, kx)] } rfl (ent_of hown8 (G2 kb) ((G2 kb).ents ++ [(sa, kx)]) (by rw [List.length_append, HG.out, ← HLE.out]; simp) (by rw [flatE_app, List.nil_append, HG.out]; rfl))
   have hMO := (HM1.out.trans hm8).set (i := kb * 10 + 9) (.slice a8 n8 c8)
   clear hown8 hgrow8 hbel8 hown5 hgrow5 hbel5 hm8 hq8 hm5 hq5 hc8
   generalize w8.setCell ⟨B, kb * 10 + 9, none⟩ (.slice a8 n8 c8) = W3 at *
   have ht3 := HT3.out (.slice a8 n8 c8)
   obtain ⟨G3, hG3⟩ : ∃ G3, updG G2 kb { G2 kb with sl := .slice a8 n8 c8, ents := (G2 kb).ents ++ [(sa, kx)] } = G3 := ⟨_, rfl⟩
   rw [hG3] at hRF ht3
   clear hG3 c0 b9 s9
   have x1 := hRF.c1 kx hx2
   rw [(ht3.sok kx _ HX3.out).kind] at x1
   have x6 := hRF.c6 kx hx2
   rw [(ht3.sok kx _ HX3.out).holds] at x6
   dsimp only at x1 x6
   obtain ⟨hv, hhv⟩ : ∃ hv : Int, ((m.holds + 1 : Nat) : Int) = hv := ⟨_, rfl⟩
   have hv1 : 1 ≤ hv := by omega
   have hv2 : hv ≤ 1000001 := by omega
   rw [hhv] at x6
   have s6 := hRF.frozen (kx * 10 + 6)
   have c0 := hRF.cellT
   have HRF3 := Hd hRF
   have HTI3 := Hd ht3
   have HMO3 := Hd hMO
   have HHV := Hd hhv
   clear hRF ht3 hMO hhv
   first
   | rw [HKD.out] at x1
     have s7 := HRF3.out.frozen (kx * 10 + 7)
     have x7 := HRF3.out.c7 kx hx2
     go_wp2_with fail
     refine (HEND.out _ _ ((HRF3.out.set hx2 (show 7 < 10 by omega) (.int .i64 (kb : Int)) { G3 kx with parent := (kb : Int) } rfl (HRF3.out.ents kx hx2)).set hx2 (show 6 < 10 by omega) (.int .i64 (hv - 1)) { (updG G3 kx { G3 kx with parent := (kb : Int) }) kx with holds := hv - 1 } rfl ((HRF3.out.set hx2 (show 7 < 10 by omega) (.int .i64 (kb : Int)) { G3 kx with parent := (kb : Int) } rfl (HRF3.out.ents kx hx2)).ents kx hx2)) (by rw [← HFX.out]; exact HTI3.out.endD HX3.out HKD.out HHV.out kb) ((HMO3.out.set _).set _)).mono ?_
     rintro e w9 ⟨rfl, hs⟩
     have HS := Hd hs
     clear hs
     go_wp2
     go_ret
     exact ⟨rfl, HS.out⟩
   | go_wp2_with fail
     refine (HEND.out _ _ (HRF3.out.set hx2 (show 6 < 10 by omega) (.int .i64 (hv - 1)) { G3 kx with holds := hv - 1 } rfl (HRF3.out.ents kx hx2)) (by rw [← HFX.out]; exact HTI3.out.endF HX3.out HHV.out) (HMO3.out.set _)).mono ?_
     rintro e w9 ⟨rfl, hs⟩
     have HS := Hd hs
     clear hs
     go_wp2
     go_ret
     exact ⟨rfl, HS.out⟩
open Go.RowKit Classical
theorem rf_move {w : World} {t B : Nat} {G : Gt} {T : IT.Tr} (h : Trf w t B G T) (hb : HB T 1000000) (d b : Int) (s sa : ByteArray) :
  Calls Tryz.prog 101 #[.pointer (some ⟨t, 0, none⟩), .int .i64 d, .string s, .int .i64 b, .string sa] w fun e w' => ∃ r, e = .returned (.int .i64 r) ∧ Stf w t B (fun T' => IT.isMove okN T d.toNat (bs s) b.toNat (bs sa) r T') w' := by
 have hstay2 : ∀ {r : Int} {e : Ending} {w' : World}, IT.isMove okN T d.toNat (bs s) b.toNat (bs sa) r T → e = .returned (.int .i64 r) ∧ Below w.heap.size w w' → ∃ r, e = .returned (.int .i64 r) ∧ Stf w t B (fun T' => IT.isMove okN T d.toNat (bs s) b.toNat (bs sa) r T') w' := by
  rintro r e w' hr ⟨rfl, hbl⟩
  exact ⟨r, rfl, Stf.keep h hbl hr⟩
 have hstay : ∀ {r : Int} {e : Ending} {w' : World}, IT.isMove okN T d.toNat (bs s) b.toNat (bs sa) r T → e = .returned (.int .i64 r) ∧ w = w' → ∃ r, e = .returned (.int .i64 r) ∧ Stf w t B (fun T' => IT.isMove okN T d.toNat (bs s) b.toNat (bs sa) r T') w' := by
  rintro r e w' hr ⟨rfl, rfl⟩
  exact hstay2 hr ⟨rfl, Below.refl _ _⟩
 cases hd : T d.toNat with
 | none =>
   refine (rf_move_no h d b s sa (.inl hd)).mono fun e w' => hstay ?_
   unfold IT.isMove; rw [hd]; exact ⟨rfl, rfl⟩
 | some n =>
 cases hq : T b.toNat with
 | none =>
   refine (rf_move_no h d b s sa (.inr hq)).mono fun e w' => hstay ?_
   unfold IT.isMove; rw [hd, hq]; exact ⟨rfl, rfl⟩
 | some q =>
 obtain ⟨kd, rfl, _, _, _⟩ := h.nat hd
 obtain ⟨kb, rfl, _, _, _⟩ := h.nat hq
 simp only [Int.toNat_natCast] at hstay hstay2 hd hq ⊢
 by_cases hk : n.kind ≠ 1 ∨ q.kind ≠ 1
 · refine (rf_move_nodir h s sa hd hq hk).mono fun e w' => hstay ?_
   unfold IT.isMove; rw [hd, hq]; dsimp only; rw [if_pos hk]; exact ⟨rfl, rfl⟩
 have hk1 : n.kind = 1 := Decidable.not_not.1 fun hh => hk (.inl hh)
 have hkb : q.kind = 1 := Decidable.not_not.1 fun hh => hk (.inr hh)
 rcases h.ties.find h.snd.1 hd s with ⟨hf, g2⟩ | ⟨i, kx, hf, hi, hi2⟩
 · refine (rf_move_none h s sa hd hq hk1 hkb hf).mono fun e w' => hstay ?_
   unfold IT.isMove; rw [hd, hq]; dsimp only; rw [if_neg hk, hf]; exact ⟨rfl, rfl⟩
 obtain ⟨m, hx⟩ := (h.ties.lead h.snd.1 hd (List.mem_of_getElem? hi)).2
 have hE : ∀ {r : Int}, (if okN (bs sa) = false then r = 1 ∧ T = T
    else if m.kind = 1 ∧ IT.Bel T kx kb then r = 8 ∧ T = T
    else match IT.findN (bs sa) q.names with
     | none =>
       if kd ≠ kb ∧ q.names.length ≥ 40 then r = 9 ∧ T = T
       else r = 0 ∧ ∃ q1 m1, IT.delT T kd kx (bs s) n m kb = some q1 ∧ IT.delT T kd kx (bs s) n m kx = some m1 ∧ T = IT.entT (IT.delT T kd kx (bs s) n m) kb kx (bs sa) q1 m1
     | some y => if y = kx then r = 0 ∧ T = T
       else ∃ mw, T y = some mw ∧
        if ¬ (mw.kind = 1 ↔ m.kind = 1) then r = 7 ∧ T = T
        else if mw.names ≠ [] then r = 8 ∧ T = T
        else r = 0 ∧ ∃ q1 q2 m2, IT.delT T kd kx (bs s) n m kb = some q1 ∧ IT.delT (IT.delT T kd kx (bs s) n m) kb y (bs sa) q1 mw kb = some q2 ∧ IT.delT (IT.delT T kd kx (bs s) n m) kb y (bs sa) q1 mw kx = some m2 ∧ IT.NF (IT.entT (IT.delT (IT.delT T kd kx (bs s) n m) kb y (bs sa) q1 mw) kb kx (bs sa) q2 m2) T) → IT.isMove okN T kd (bs s) kb (bs sa) r T := fun {r} hh => by
  unfold IT.isMove; rw [hd, hq]; dsimp only; rw [if_neg hk, hf]; exact ⟨m, hx, hh⟩
 cases hok : okN (bs sa) with
 | false =>
   refine (rf_move_name h s sa hd hq hk1 hkb hf hx hi hi2 hok).mono fun e w' => hstay (hE ?_)
   rw [if_pos hok]; exact ⟨rfl, rfl⟩
 | true =>
 have hok' : ¬ okN (bs sa) = false := by rw [hok]; intro e; cases e
 by_cases hbe : m.kind = 1 ∧ IT.Bel T kx kb
 · refine (rf_move_busy h s sa hd hq hk1 hkb hf hx hi hi2 hok hbe.1 hbe.2).mono fun e w' => hstay (hE ?_)
   rw [if_neg hok', if_pos hbe]; exact ⟨rfl, rfl⟩
 rcases h.ties.find h.snd.1 hq sa with ⟨hfa, g2⟩ | ⟨j, kw, hfa, hj, hj2⟩
 · by_cases hfull : kd ≠ kb ∧ q.names.length ≥ 40
   · refine (rf_move_full h s sa hd hq hk1 hkb hf hx hi hi2 hok hbe hfa hfull.1 hfull.2).mono fun e w' => hstay (hE ?_)
     rw [if_neg hok', if_neg hbe, hfa]; dsimp only; rw [if_pos hfull]; exact ⟨rfl, rfl⟩
   · exact (rf_move_to h hb s sa hd hq hk1 hkb hf hx hi hi2 hok hbe hfa hfull).mono fun e w' hh => ⟨0, hh⟩
 by_cases hwx : kw = kx
 · subst hwx
   refine (rf_move_same h s sa hd hq hk1 hkb hf hx hi hi2 hok hbe hfa hj hj2).mono fun e w' => hstay (hE ?_)
   rw [if_neg hok', if_neg hbe, hfa]; dsimp only; rw [if_pos rfl]; exact ⟨rfl, rfl⟩
 obtain ⟨mw, hw⟩ := (h.ties.lead h.snd.1 hq (List.mem_of_getElem? hj)).2
 by_cases hkk : (mw.kind = 1 ↔ m.kind = 1)
 · by_cases hmw : mw.names = []
   · exact (rf_move_over h hb s sa hd hq hk1 hkb hf hx hi hi2 hok hbe hfa hj hj2 hwx hw hkk hmw).mono fun e w' hh => ⟨0, hh⟩
   · refine (rf_move_kept h s sa hd hq hk1 hkb hf hx hi hi2 hok hbe hfa hj hj2 hwx hw hkk hmw).mono fun e w' => hstay2 (hE ?_)
     rw [if_neg hok', if_neg hbe, hfa]; dsimp only; rw [if_neg hwx]
     refine ⟨mw, hw, ?_⟩
     rw [if_neg (not_not_intro hkk), if_pos hmw]; exact ⟨rfl, rfl⟩
 · refine (rf_move_kind h s sa hd hq hk1 hkb hf hx hi hi2 hok hbe hfa hj hj2 hwx hw hkk).mono fun e w' => hstay2 (hE ?_)
   rw [if_neg hok', if_neg hbe, hfa]; dsimp only; rw [if_neg hwx]
   refine ⟨mw, hw, ?_⟩
   rw [if_pos hkk]; exact ⟨rfl, rfl⟩
end Go.Proofs.YtafonmnfeibaiaaGreat.RF
namespace Go.Proofs.YtafonmnfeibaiaaGreat.RF
open Go.RowKit
def noG : Gt := fun _ => noRN
def zeroA : Array Value := #[.bool false, .int .i64 0, .int .i64 0, .int .i64 0, .int .i64 0, .int .i64 0, .int .i64 0, .int .i64 0, .string ⟨#[]⟩, .slice none 0 0]
theorem rowA_none : madeCells zeroA 2010 = rowA noG := by
 apply Array.ext_getElem?
 intro i
 rw [madeCells]
 by_cases hi : i < 2010
 · rw [rowA_get _ i hi]
   have hm : i % 10 < 10 := Nat.mod_lt _ (by omega)
   have h1 : (Array.map (fun x => zeroA[x % zeroA.size]!) (Array.range 2010))[i]? = some (zeroA[i % 10]!) := by
    rw [Array.getElem?_map, Array.getElem?_range]
    rw [if_pos hi]
    rfl
   rw [h1]
   show some (zeroA[i % 10]!) = zeroA.toList[i % 10]?
   have h2 : zeroA.size = 10 := rfl
   rw [getElem!_pos zeroA (i % 10) (by rw [h2]; exact hm), ← Array.getElem?_eq_getElem, Array.getElem?_toList]
 · have h1 : (rowA noG)[i]? = none := Array.getElem?_eq_none (by rw [rowA_size]; omega)
   rw [h1, Array.getElem?_eq_none]
   rw [Array.size_map, Array.size_range]
   omega
theorem info_inode : (Tryz.prog.info? 112).map (fun i => (i.zero, i.size, i.bytes)) = some (some (.agg zeroA), 10, 104) := by kernel_rfl
theorem make_row (w : World) : (Instr.makeSlice 107 (.int .i64 201) (.int .i64 201)).run Tryz.prog w = .ok (.slice (some ⟨w.heap.size, 0, none⟩) 201 201) (w.alloc (.cells (rowA noG) 112)) := by
 obtain ⟨i, hi, hz, hs, hb⟩ := info_parts info_inode
 have hr := run_make (P := Tryz.prog) w 107 112 i (.agg zeroA) (by kernel_rfl) hi hz .i64 .i64 201 201 (by omega) (by omega) (by rw [hb]; omega) (by omega)
 rw [hs] at hr
 rw [← rowA_none]
 exact hr
def rootI (mo o g : Int) : List Value := [.bool true, .int .i64 1, .int .i64 mo, .int .i64 o, .int .i64 g, .int .i64 0, .int .i64 0, .int .i64 1, .string ⟨#[]⟩, .slice none 0 0]
theorem Rf.empty (w : World) : Rf ((w.alloc (.cells (rowA noG) 112)).alloc (.cells #[.slice (some ⟨w.heap.size, 0, none⟩) 201 201] 109)) (w.heap.size + 1) w.heap.size noG where
 tree := by
  have := aQ (w.alloc (.cells (rowA noG) 112)) (.cells #[.slice (some ⟨w.heap.size, 0, none⟩) 201 201] 109)
  rw [aZ] at this
  exact this
 row := (aP _ _ (by rw [aZ]; omega)).trans (aQ _ _)
 ents := fun k _ => EntAt.nil _ _ rfl rfl
theorem Tie.root (mo o g : Int) : Tie (updG noG 1 ⟨true, 1, mo, o, g, 0, 0, 1, ⟨#[]⟩, .slice none 0 0, []⟩) (IT.rootT mo o g) where
 nok := fun k _ hn => by
  unfold IT.rootT at hn
  by_cases e : k = 1
  · rw [if_pos e] at hn; cases hn
  · rw [updG_other _ _ e]; exact ⟨rfl, rfl⟩
 sok := fun k m hm => by
  obtain ⟨rfl, rfl⟩ := IT.rootT_get hm
  rw [updG_same]
  exact ⟨rfl, rfl, rfl, rfl, rfl, rfl, rfl, fun _ => rfl, rfl, List.Perm.refl _⟩
theorem rf_new (mo o g : Int) (hmo : mo < 9223372036854775808) (w : World) (hr : rightB mo o g = true) :
  Calls Tryz.prog 29 #[.int .i64 mo, .int .i64 o, .int .i64 g] w fun e w' => ∃ t B G, e = .returned (.pointer (some ⟨t, 0, none⟩)) ∧ w.heap.size ≤ t ∧ w.heap.size ≤ B ∧ Below w.heap.size w w' ∧ Trf w' t B G (IT.rootT mo o g) := by
 rw [right_ids] at hr
 simp only [Bool.and_eq_true] at hr
 have HR := Hd (Md.rright_any mo hmo w)
 have HO := Hd (rf_id o w)
 have HG := Hd (rf_id g w)
 rw [hr.1] at HR
 rw [hr.2.1] at HO
 rw [hr.2.2] at HG
 have hmk := make_row
 have HR0 := Hd (Rf.empty w)
 have HB0 : Hid (Below w.heap.size w ((w.alloc (.cells (rowA noG) 112)).alloc (.cells #[.slice (some ⟨w.heap.size, 0, none⟩) 201 201] 109))) := Hd (((Below.refl _ _).alloc (Nat.le_refl _) _).alloc (by rw [aZ]; omega) _)
 clear hr hmo
 generalize hA : rowA noG = A at *
 have HA := Hd hA
 clear hA
 go_enter Tryz.func29, Tryz.ntmps29
 go_wp2_with fail
 refine HR.out.mono ?_
 rintro e w2 ⟨rfl, rfl⟩
 go_wp2_with fail
 refine HO.out.mono ?_
 rintro e w2 ⟨rfl, rfl⟩
 go_wp2_with fail
 refine HG.out.mono ?_
 rintro e w2 ⟨rfl, rfl⟩
 go_upto_region 5 with fail
 have hrf := HR0.out
 have hb := HB0.out
 clear HR0 HB0 hmk
 generalize (w2.alloc (.cells A 112)).alloc (.cells #[.slice (some ⟨w2.heap.size, 0, none⟩) 201 201] 109) = W5 at *
 have c0 := hrf.cellT
 have hT : W5.there w2.heap.size 10 (rootI mo o g).toArray.size := hrf.there (k := 1) (by omega)
 have hI : (Tryz.prog.info? 112).map (·.size) = some (rootI mo o g).toArray.size := rfl
 have h1C : (rootI mo o g).toArray.all (·.oneCell') = true := by simp [rootI, Value.oneCell']
 have hs := hrf.setAll (k := 1) (by omega) ⟨true, 1, mo, o, g, 0, 0, 1, ⟨#[]⟩, .slice none 0 0, []⟩ (EntAt.nil _ _ rfl rfl)
 have hbl : Below w2.heap.size w2 (W5.setCells w2.heap.size 10 (rootI mo o g).toArray.toList) := below_setCells (Nat.le_refl _) _ _ _ hb
 have hs2 : Rf (W5.setCells w2.heap.size 10 (rootI mo o g).toArray.toList) (w2.heap.size + 1) w2.heap.size (updG noG 1 ⟨true, 1, mo, o, g, 0, 0, 1, ⟨#[]⟩, .slice none 0 0, []⟩) := hs
 clear hs hb hrf
 go_wp2_with (refine wpList_store_mid rfl 112 _ _ rfl w2.heap.size 10 (rootI mo o g).toArray rfl rfl hT hI h1C ?_; generalize World.setCells W5 w2.heap.size 10 (rootI mo o g).toArray.toList = W6 at hs2 hbl ⊢; have HS := Hd hs2; have HL := Hd hbl; clear hs2 hbl hT hI h1C c0)
 go_ret
 exact ⟨w2.heap.size + 1, w2.heap.size, _, rfl, Nat.le_succ _, Nat.le_refl _, HL.out, HS.out, Tie.root _ _ _, IT.rootT_sound _ _ _ _⟩
end Go.Proofs.YtafonmnfeibaiaaGreat.RF
namespace Go.Proofs.YtafonmnfeibaiaaGreat
open Go.RowKit
def DownPost (T : IT.Tr) (c : Cr) (cwd : Int) (abs : Bool) (l : List ByteArray) (w : World) (e : Ending) (w' : World) : Prop :=
 ∃ v : Value, e = .returned (.tuple #[v, .int .i64 (goT T c cwd abs (l.map bs)).2]) ∧ v = (if (goT T c cwd abs (l.map bs)).2 = 0 then statV T (goT T c cwd abs (l.map bs)).1 else noInfo) ∧ Below w.heap.size w w'
theorem downPost_err {T : IT.Tr} {c : Cr} {cwd : Int} {abs : Bool} {l : List ByteArray} {w w' : World} {k : Nat} {r : Int} (h : goT T c cwd abs (l.map bs) = (k, r)) (hr : r ≠ 0) (hb : Below w.heap.size w w') : DownPost T c cwd abs l w (.returned (.tuple #[noInfo, .int .i64 r])) w' := by
 unfold DownPost
 rw [h]
 exact ⟨_, rfl, by rw [if_neg hr], hb⟩
theorem downPost_ok {T : IT.Tr} {c : Cr} {cwd : Int} {abs : Bool} {l : List ByteArray} {w w' : World} {k : Nat} {v : Value} (h : goT T c cwd abs (l.map bs) = (k, 0)) (hv : v = statV T k) (hb : Below w.heap.size w w') : DownPost T c cwd abs l w (.returned (.tuple #[v, .int .i64 0])) w' := by
 unfold DownPost
 rw [h]
 exact ⟨_, rfl, by rw [if_pos rfl]; exact hv, hb⟩
theorem drop_map {l : List ByteArray} {j : Nat} (h : j < l.length) : (l.drop j).map bs = bs l[j] :: (l.drop (j + 1)).map bs := by
 rw [List.drop_eq_getElem_cons h, List.map_cons]
theorem DI.store {w W : World} {t : Nat} {cwd : Int} {c : Cr} {T : IT.Tr} {B R X k k2 : Nat} {m m2 : IT.Nd} (h : DI w t cwd c T B R X k m W) (hm : T k2 = some m2) (hb : B ≠ X) (hr : R ≠ X) (hx : w.heap.size ≤ X) : DI w t cwd c T B R X k2 m2 ((((((((W.setCell ⟨X, 0, none⟩ (.int .i64 k2)).setCell ⟨X, 1, none⟩ (.int .i64 m2.kind)).setCell ⟨X, 2, none⟩ (.int .i64 m2.mode)).setCell ⟨X, 3, none⟩ (.int .i64 m2.owner)).setCell ⟨X, 4, none⟩ (.int .i64 m2.group)).setCell ⟨X, 5, none⟩ (.int .i64 (IT.lnk T k2 : Nat))).setCell ⟨X, 6, none⟩ (.int .i64 (m2.data.length + m2.names.length : Nat))).setCell ⟨X, 7, none⟩ (.int .i64 m2.tty)) :=
 ⟨below_set8 h.below hx, (heap_set8_other hb).trans h.a, (heap_set8_other hr).trans h.r, heap_set8 h.x, hm⟩
theorem down_step {T : IT.Tr} {c : Cr} {k : Nat} {m : IT.Nd} {n : IT.Bytes} (h : T k = some m) (he : entersE m c = 0) (L : List IT.Bytes) : downT T c k (n :: L) = match lookT T k n with
  | none => (0, 3)
  | some j => downT T c j L := by
 conv => lhs; unfold downT
 rw [h]
 dsimp only
 rw [if_neg (fun e => e he)]
 all_goals (cases lookT T k n <;> rfl)
theorem bZ {w W : World} (h : Below w.heap.size w W) (o : Obj) : Below w.heap.size w (W.alloc o) := h.alloc h.size o
theorem stat_eq {T : IT.Tr} {k : Nat} {m : IT.Nd} (h : T k = some m) : .agg (infC T k m) = statV T k := by rw [stat_infoV h]; rfl
theorem wdown_root {w : World} {t : Nat} {S : Tab} {T : IT.Tr} (h : Tre w t S T) (cwd : Int) (c : Cr) (a : Option Addr) (cap : Nat) (l : List ByteArray) (hrow : Row w a l) (hl : l.length ≤ maxLen) :
  Calls Tryz.prog 76 #[ask t cwd c, .bool true, .slice a l.length cap] w (DownPost T c cwd true l w) := by
 have HR := Hd hrow
 have H := Hd h
 unfold maxLen at hl
 have h2t := h.mv ((Mv.refl h.rep).alloc (.cells (askC t cwd c) 77))
 have h3t := h2t.mv ((Mv.refl h2t.rep).alloc (.cells zeroC 44))
 have h3 := stat_any h3t 1
 have hzr : ((w.alloc (.cells (askC t cwd c) 77)).alloc (.cells zeroC 44)).heap[w.heap.size + 1]? = some (.cells zeroC 44 (0, 0)) := by
  have := aQ (w.alloc (Obj.cells (askC t cwd c) 77)) (Obj.cells zeroC 44)
  rw [aZ] at this
  exact this
 have hza : ((w.alloc (.cells (askC t cwd c) 77)).alloc (.cells zeroC 44)).heap[w.heap.size]? = some (.cells (askC t cwd c) 77 (0, 0)) := by
  rw [aP _ _ (by rw [aZ]; omega), aQ]
 have hzb : Below w.heap.size w ((w.alloc (.cells (askC t cwd c) 77)).alloc (.cells zeroC 44)) := ((Below.refl _ _).alloc (Nat.le_refl _) _).alloc (by rw [aZ]; omega) _
 have hzs : ((w.alloc (.cells (askC t cwd c) 77)).alloc (.cells zeroC 44)).heap.size = w.heap.size + 1 + 1 := by rw [aZ, aZ]
 have HZ := Hd (And.intro hzr (And.intro hza (And.intro hzb hzs)))
 clear h hrow h2t h3t hzr hza hzb hzs
 cases hT : T (startT cwd true) with
 | none =>
   have HG : Hid (goT T c cwd true (l.map bs) = (0, 3)) := Hd (by unfold goT; rw [if_pos hT])
   have HC : Hid (Calls Tryz.prog 17 #[.pointer (some ⟨t, 0, none⟩), .int .i64 1] ((w.alloc (.cells (askC t cwd c) 77)).alloc (.cells zeroC 44)) fun e w' => e = .returned (.tuple #[.agg #[.int .i64 0, .int .i64 0, .int .i64 0, .int .i64 0, .int .i64 0, .int .i64 0, .int .i64 0, .int .i64 0], .bool false]) ∧ Below ((w.alloc (.cells (askC t cwd c) 77)).alloc (.cells zeroC 44)).heap.size ((w.alloc (.cells (askC t cwd c) 77)).alloc (.cells zeroC 44)) w') := Hd (h3.mono (by
    rintro e w' ⟨rfl, hb⟩
    have hT' : T (1 : Int).toNat = none := hT
    refine ⟨by unfold statV; rw [hT']; rfl, hb⟩))
   clear h3 hT
   unfold ask
   go_enter Tryz.func76, Tryz.ntmps76
   go_wp2_with fail
   refine HC.out.mono ?_
   rintro e w1 ⟨rfl, hb⟩
   have HB := Hd hb
   have hs : w.heap.size + 1 + 1 ≤ w1.heap.size := by have := hb.size; rwa [HZ.out.2.2.2] at this
   have hr : w1.heap[w.heap.size + 1]? = some (.cells zeroC 44 (0, 0)) := by
    rw [hb.block _ (by rw [HZ.out.2.2.2]; omega)]; exact HZ.out.1
   have r0 : w1.cell? ⟨w.heap.size + 1, 0, none⟩ = some (.int .i64 0) := cO hr 0
   have f0 : w1.frozen? ⟨w.heap.size + 1, 0, none⟩ = false := fO hr 0
   have r1 : w1.cell? ⟨w.heap.size + 1, 1, none⟩ = some (.int .i64 0) := cO hr 1
   have f1 : w1.frozen? ⟨w.heap.size + 1, 1, none⟩ = false := fO hr 1
   have r2 : w1.cell? ⟨w.heap.size + 1, 2, none⟩ = some (.int .i64 0) := cO hr 2
   have f2 : w1.frozen? ⟨w.heap.size + 1, 2, none⟩ = false := fO hr 2
   have r3 : w1.cell? ⟨w.heap.size + 1, 3, none⟩ = some (.int .i64 0) := cO hr 3
   have f3 : w1.frozen? ⟨w.heap.size + 1, 3, none⟩ = false := fO hr 3
   have r4 : w1.cell? ⟨w.heap.size + 1, 4, none⟩ = some (.int .i64 0) := cO hr 4
   have f4 : w1.frozen? ⟨w.heap.size + 1, 4, none⟩ = false := fO hr 4
   have r5 : w1.cell? ⟨w.heap.size + 1, 5, none⟩ = some (.int .i64 0) := cO hr 5
   have f5 : w1.frozen? ⟨w.heap.size + 1, 5, none⟩ = false := fO hr 5
   have r6 : w1.cell? ⟨w.heap.size + 1, 6, none⟩ = some (.int .i64 0) := cO hr 6
   have f6 : w1.frozen? ⟨w.heap.size + 1, 6, none⟩ = false := fO hr 6
   have r7 : w1.cell? ⟨w.heap.size + 1, 7, none⟩ = some (.int .i64 0) := cO hr 7
   have f7 : w1.frozen? ⟨w.heap.size + 1, 7, none⟩ = false := fO hr 7
   have hs1 : w.heap.size + 1 < w1.heap.size := by omega
   have hs2 : w.heap.size < w1.heap.size := by omega
   have HRR := Hd hr
   clear hb hr hs
   go_wp2
   refine bodyPost_ret (ret_info rfl rfl ((aP _ _ (by simpa [World.setCell] using hs1)).trans (heap_set8 HRR.out))) rfl ?_
   exact downPost_err HG.out (by decide) (bZ (below_set8 (HZ.out.2.2.1.trans (HB.out.mono (by rw [HZ.out.2.2.2]; omega))) (by omega)) _)
 | some m0 =>
   have HC : Hid (Calls Tryz.prog 17 #[.pointer (some ⟨t, 0, none⟩), .int .i64 1] ((w.alloc (.cells (askC t cwd c) 77)).alloc (.cells zeroC 44)) fun e w' => e = .returned (.tuple #[.agg (infC T (startT cwd true) m0), .bool true]) ∧ Below ((w.alloc (.cells (askC t cwd c) 77)).alloc (.cells zeroC 44)).heap.size ((w.alloc (.cells (askC t cwd c) 77)).alloc (.cells zeroC 44)) w') := Hd (h3.mono (by
    rintro e w' ⟨rfl, hb⟩
    have hT' : T (1 : Int).toNat = some m0 := hT
    refine ⟨by unfold statV; rw [hT']; rfl, hb⟩))
   have HG : Hid (goT T c cwd true (l.map bs) = downT T c (startT cwd true) (l.map bs)) := Hd (by unfold goT; rw [if_neg (by rw [hT]; intro e; cases e)])
   have HT := Hd hT
   obtain ⟨k0, hk0⟩ : ∃ k0, k0 = startT cwd true := ⟨_, rfl⟩
   rw [← hk0] at HC HG HT
   clear h3 hT hk0
   unfold infC at HC
   unfold ask
   go_enter Tryz.func76, Tryz.ntmps76
   go_wp2_with fail
   refine HC.out.mono ?_
   rintro e w1 ⟨rfl, hb⟩
   have HD : Hid (DI w t cwd c T w.heap.size (w.heap.size + 1) w1.heap.size k0 m0 (w1.alloc (.cells (infC T k0 m0) 44))) := Hd (by
    have hs := hb.size
    rw [HZ.out.2.2.2] at hs
    refine ⟨(HZ.out.2.2.1.trans (hb.mono (by rw [HZ.out.2.2.2]; omega))).alloc (by omega) _, ?_, ?_, aQ _ _, HT.out⟩
    · rw [aP _ _ (by omega), hb.block _ (by rw [HZ.out.2.2.2]; omega)]; exact HZ.out.2.1
    · rw [aP _ _ (by omega), hb.block _ (by rw [HZ.out.2.2.2]; omega)]; exact HZ.out.1)
   have HS1 : Hid (w.heap.size + 1 < w1.heap.size) := Hd (by have hs := hb.size; rw [HZ.out.2.2.2] at hs; omega)
   have HSz : Hid (w1.heap.size < (w1.alloc (.cells (infC T k0 m0) 44)).heap.size) := Hd (by rw [aZ]; omega)
   clear hb HC
   go_wp2_with fail
   go_loopw [31] (fun iv wr => ∃ (j k : Nat) (m : IT.Nd), iv = .int .i64 j ∧ j ≤ l.length ∧ DI w t cwd c T w.heap.size (w.heap.size + 1) w1.heap.size k m wr ∧ downT T c k0 (l.map bs) = downT T c k ((l.drop j).map bs)) (fun iv _ => l.length - (intOf iv).toNat)
   case atStart => exact ⟨0, k0, m0, rfl, Nat.zero_le _, HD.out, rfl⟩
   case round =>
    clear HD
    obtain ⟨j, k, m, rfl, hj, hd, heq⟩ := hrel
    have HDI := Hd hd
    have HQ := Hd heq
    have a0 : wr.cell? ⟨w.heap.size, 0, none⟩ = some (.pointer (some ⟨t, 0, none⟩)) := hd.ca 0
    have a1 : wr.cell? ⟨w.heap.size, 1, none⟩ = some (.int .i64 cwd) := hd.ca 1
    have a2 : wr.cell? ⟨w.heap.size, 2, none⟩ = some (.int .i64 c.real) := hd.ca 2
    have a3 : wr.cell? ⟨w.heap.size, 3, none⟩ = some (.int .i64 c.eff) := hd.ca 3
    have a4 : wr.cell? ⟨w.heap.size, 4, none⟩ = some (.int .i64 c.saved) := hd.ca 4
    have a5 : wr.cell? ⟨w.heap.size, 5, none⟩ = some (.int .i64 c.group) := hd.ca 5
    have a6 : wr.cell? ⟨w.heap.size, 6, none⟩ = some (.int .i64 c.eg) := hd.ca 6
    have x0 : wr.cell? ⟨w1.heap.size, 0, none⟩ = some (.int .i64 (k : Int)) := hd.cx 0
    have x1 : wr.cell? ⟨w1.heap.size, 1, none⟩ = some (.int .i64 m.kind) := hd.cx 1
    have x2 : wr.cell? ⟨w1.heap.size, 2, none⟩ = some (.int .i64 m.mode) := hd.cx 2
    have x3 : wr.cell? ⟨w1.heap.size, 3, none⟩ = some (.int .i64 m.owner) := hd.cx 3
    have x4 : wr.cell? ⟨w1.heap.size, 4, none⟩ = some (.int .i64 m.group) := hd.cx 4
    have x5 : wr.cell? ⟨w1.heap.size, 5, none⟩ = some (.int .i64 (IT.lnk T k : Nat)) := hd.cx 5
    have x6 : wr.cell? ⟨w1.heap.size, 6, none⟩ = some (.int .i64 (m.data.length + m.names.length : Nat)) := hd.cx 6
    have x7 : wr.cell? ⟨w1.heap.size, 7, none⟩ = some (.int .i64 m.tty) := hd.cx 7
    by_cases hlt : j < l.length
    · obtain ⟨nb, no, rfl, hnb, hnc⟩ := HR.out j hlt
      have hn : wr.cell? ⟨nb, no + j, none⟩ = some (.string l[j]) := by rw [hd.below.cell (p := ⟨nb, no + j, none⟩) hnb]; exact hnc
      have hlt1 : (j : Int) < l.length := by omega
      have HN := Hd (drop_map hlt)
      have HTre := Hd (H.out.mv ((Mv.refl H.out.rep).below hd.below))
      clear hd heq hnc
      generalize hnm : l[j] = nm at *
      clear hnm
      go_wp2_with fail
      refine (wenters_any t cwd c _ _ _ _ _ _ _ _ _).mono ?_
      rintro e w2 ⟨r, rfl, hr, hb⟩
      have HD2 := Hd (HDI.out.turn hb)
      have hd := HD2.out
      have HR2 : Hid (r = entersE m c) := Hd hr
      clear hr a0 a1 a2 a3 a4 a5 a6 x0 x1 x2 x3 x4 x5 x6 x7 hn
      by_cases hz : r = 0
      · obtain rfl : r = 0 := hz
        have a0 : w2.cell? ⟨w.heap.size, 0, none⟩ = some (.pointer (some ⟨t, 0, none⟩)) := hd.ca 0
        have x0 : w2.cell? ⟨w1.heap.size, 0, none⟩ = some (.int .i64 (k : Int)) := hd.cx 0
        have HT2 := Hd (HTre.out.mv ((Mv.refl HTre.out.rep).below hb))
        have HE0 := Hd (down_step (T := T) (c := c) (n := bs nm) HDI.out.at_ HR2.out.symm)
        cases hlk : lookT T k (bs nm) with
        | none =>
          have r0 : w2.cell? ⟨w.heap.size + 1, 0, none⟩ = some (.int .i64 0) := hd.cr 0
          have f0 : w2.frozen? ⟨w.heap.size + 1, 0, none⟩ = false := hd.fr 0
          have r1 : w2.cell? ⟨w.heap.size + 1, 1, none⟩ = some (.int .i64 0) := hd.cr 1
          have f1 : w2.frozen? ⟨w.heap.size + 1, 1, none⟩ = false := hd.fr 1
          have r2 : w2.cell? ⟨w.heap.size + 1, 2, none⟩ = some (.int .i64 0) := hd.cr 2
          have f2 : w2.frozen? ⟨w.heap.size + 1, 2, none⟩ = false := hd.fr 2
          have r3 : w2.cell? ⟨w.heap.size + 1, 3, none⟩ = some (.int .i64 0) := hd.cr 3
          have f3 : w2.frozen? ⟨w.heap.size + 1, 3, none⟩ = false := hd.fr 3
          have r4 : w2.cell? ⟨w.heap.size + 1, 4, none⟩ = some (.int .i64 0) := hd.cr 4
          have f4 : w2.frozen? ⟨w.heap.size + 1, 4, none⟩ = false := hd.fr 4
          have r5 : w2.cell? ⟨w.heap.size + 1, 5, none⟩ = some (.int .i64 0) := hd.cr 5
          have f5 : w2.frozen? ⟨w.heap.size + 1, 5, none⟩ = false := hd.fr 5
          have r6 : w2.cell? ⟨w.heap.size + 1, 6, none⟩ = some (.int .i64 0) := hd.cr 6
          have f6 : w2.frozen? ⟨w.heap.size + 1, 6, none⟩ = false := hd.fr 6
          have r7 : w2.cell? ⟨w.heap.size + 1, 7, none⟩ = some (.int .i64 0) := hd.cr 7
          have f7 : w2.frozen? ⟨w.heap.size + 1, 7, none⟩ = false := hd.fr 7
          have HC : Hid (Calls Tryz.prog 14 #[.pointer (some ⟨t, 0, none⟩), .int .i64 (k : Int), .string nm] w2 fun e w' => e = .returned (.tuple #[.int .i64 0, .bool false]) ∧ w2 = w') := Hd ((look_any HT2.out k nm).mono (by
           rintro e w' ⟨rfl, hw⟩
           exact ⟨by rw [show lookT T (k : Int).toNat (bs nm) = none from hlk]; rfl, hw⟩))
          have HLK := Hd hlk
          clear hd hb hlk
          go_wp2_with fail
          refine HC.out.mono ?_
          rintro e wl ⟨rfl, rfl⟩
          go_wp2
          refine bodyPost_ret (ret_info rfl rfl (heap_set8 HD2.out.r)) rfl ?_
          refine downPost_err (k := 0) ?_ (by decide) (below_set8 HD2.out.below (by omega))
          rw [HG.out, HQ.out, HN.out, HE0.out, HLK.out]
        | some j2 =>
          obtain ⟨m2, hm2⟩ := look_there HTre.out.snd hlk
          have HM2 := Hd hm2
          have HC : Hid (Calls Tryz.prog 14 #[.pointer (some ⟨t, 0, none⟩), .int .i64 (k : Int), .string nm] w2 fun e w' => e = .returned (.tuple #[.int .i64 (j2 : Int), .bool true]) ∧ w2 = w') := Hd ((look_any HT2.out k nm).mono (by
           rintro e w' ⟨rfl, hw⟩
           exact ⟨by rw [show lookT T (k : Int).toNat (bs nm) = some j2 from hlk]; rfl, hw⟩))
          have HC2 : Hid (Calls Tryz.prog 17 #[.pointer (some ⟨t, 0, none⟩), .int .i64 (j2 : Int)] w2 fun e w' => e = .returned (.tuple #[.agg (infC T j2 m2), .bool true]) ∧ Below w2.heap.size w2 w') := Hd ((stat_any HT2.out j2).mono (by
           rintro e w' ⟨rfl, hbb⟩
           have hT' : T (j2 : Int).toNat = some m2 := hm2
           refine ⟨by unfold statV; rw [hT']; rfl, hbb⟩))
          have HLK := Hd hlk
          clear hd hb hlk hm2
          unfold infC at HC2
          go_wp2_with fail
          refine HC.out.mono ?_
          rintro e wl ⟨rfl, rfl⟩
          go_wp2_with fail
          refine HC2.out.mono ?_
          rintro e w3 ⟨rfl, hb⟩
          have HD3 := Hd (HD2.out.turn hb)
          have hd := HD3.out
          have x0 : w3.cell? ⟨w1.heap.size, 0, none⟩ = some (.int .i64 (k : Int)) := hd.cx 0
          have x1 : w3.cell? ⟨w1.heap.size, 1, none⟩ = some (.int .i64 m.kind) := hd.cx 1
          have x2 : w3.cell? ⟨w1.heap.size, 2, none⟩ = some (.int .i64 m.mode) := hd.cx 2
          have x3 : w3.cell? ⟨w1.heap.size, 3, none⟩ = some (.int .i64 m.owner) := hd.cx 3
          have x4 : w3.cell? ⟨w1.heap.size, 4, none⟩ = some (.int .i64 m.group) := hd.cx 4
          have x5 : w3.cell? ⟨w1.heap.size, 5, none⟩ = some (.int .i64 (IT.lnk T k : Nat)) := hd.cx 5
          have x6 : w3.cell? ⟨w1.heap.size, 6, none⟩ = some (.int .i64 (m.data.length + m.names.length : Nat)) := hd.cx 6
          have x7 : w3.cell? ⟨w1.heap.size, 7, none⟩ = some (.int .i64 m.tty) := hd.cx 7
          have y0 : w3.frozen? ⟨w1.heap.size, 0, none⟩ = false := hd.fx 0
          have y1 : w3.frozen? ⟨w1.heap.size, 1, none⟩ = false := hd.fx 1
          have y2 : w3.frozen? ⟨w1.heap.size, 2, none⟩ = false := hd.fx 2
          have y3 : w3.frozen? ⟨w1.heap.size, 3, none⟩ = false := hd.fx 3
          have y4 : w3.frozen? ⟨w1.heap.size, 4, none⟩ = false := hd.fx 4
          have y5 : w3.frozen? ⟨w1.heap.size, 5, none⟩ = false := hd.fx 5
          have y6 : w3.frozen? ⟨w1.heap.size, 6, none⟩ = false := hd.fx 6
          have y7 : w3.frozen? ⟨w1.heap.size, 7, none⟩ = false := hd.fx 7
          clear hd hb
          go_wp2
          go_roundw
          case rel => exact ⟨j + 1, j2, m2, by go_num, by omega, HD3.out.store HM2.out (by have := HS1.out; omega) (by have := HS1.out; omega) (by have := HS1.out; omega), by rw [HQ.out, HN.out, HE0.out, HLK.out]⟩
          case measure => simp [intOf]; omega
      · have hz1 : (r != 0) = true := by simpa using hz
        have r0 : w2.cell? ⟨w.heap.size + 1, 0, none⟩ = some (.int .i64 0) := hd.cr 0
        have f0 : w2.frozen? ⟨w.heap.size + 1, 0, none⟩ = false := hd.fr 0
        have r1 : w2.cell? ⟨w.heap.size + 1, 1, none⟩ = some (.int .i64 0) := hd.cr 1
        have f1 : w2.frozen? ⟨w.heap.size + 1, 1, none⟩ = false := hd.fr 1
        have r2 : w2.cell? ⟨w.heap.size + 1, 2, none⟩ = some (.int .i64 0) := hd.cr 2
        have f2 : w2.frozen? ⟨w.heap.size + 1, 2, none⟩ = false := hd.fr 2
        have r3 : w2.cell? ⟨w.heap.size + 1, 3, none⟩ = some (.int .i64 0) := hd.cr 3
        have f3 : w2.frozen? ⟨w.heap.size + 1, 3, none⟩ = false := hd.fr 3
        have r4 : w2.cell? ⟨w.heap.size + 1, 4, none⟩ = some (.int .i64 0) := hd.cr 4
        have f4 : w2.frozen? ⟨w.heap.size + 1, 4, none⟩ = false := hd.fr 4
        have r5 : w2.cell? ⟨w.heap.size + 1, 5, none⟩ = some (.int .i64 0) := hd.cr 5
        have f5 : w2.frozen? ⟨w.heap.size + 1, 5, none⟩ = false := hd.fr 5
        have r6 : w2.cell? ⟨w.heap.size + 1, 6, none⟩ = some (.int .i64 0) := hd.cr 6
        have f6 : w2.frozen? ⟨w.heap.size + 1, 6, none⟩ = false := hd.fr 6
        have r7 : w2.cell? ⟨w.heap.size + 1, 7, none⟩ = some (.int .i64 0) := hd.cr 7
        have f7 : w2.frozen? ⟨w.heap.size + 1, 7, none⟩ = false := hd.fr 7
        have HNZ := Hd hz
        have HB := Hd hb
        clear hz hd hb
        go_wp2
        refine bodyPost_ret (ret_info rfl rfl (heap_set8 HD2.out.r)) rfl ?_
        refine downPost_err (k := 0) ?_ HNZ.out (below_set8 HD2.out.below (by omega))
        rw [HG.out, HQ.out, HN.out]
        unfold downT
        rw [HDI.out.at_]
        dsimp only
        rw [if_pos (by rw [← HR2.out]; exact HNZ.out), HR2.out]
    · obtain rfl : j = l.length := by omega
      clear hlt hj
      have r0 : wr.cell? ⟨w.heap.size + 1, 0, none⟩ = some (.int .i64 0) := hd.cr 0
      have f0 : wr.frozen? ⟨w.heap.size + 1, 0, none⟩ = false := hd.fr 0
      have r1 : wr.cell? ⟨w.heap.size + 1, 1, none⟩ = some (.int .i64 0) := hd.cr 1
      have f1 : wr.frozen? ⟨w.heap.size + 1, 1, none⟩ = false := hd.fr 1
      have r2 : wr.cell? ⟨w.heap.size + 1, 2, none⟩ = some (.int .i64 0) := hd.cr 2
      have f2 : wr.frozen? ⟨w.heap.size + 1, 2, none⟩ = false := hd.fr 2
      have r3 : wr.cell? ⟨w.heap.size + 1, 3, none⟩ = some (.int .i64 0) := hd.cr 3
      have f3 : wr.frozen? ⟨w.heap.size + 1, 3, none⟩ = false := hd.fr 3
      have r4 : wr.cell? ⟨w.heap.size + 1, 4, none⟩ = some (.int .i64 0) := hd.cr 4
      have f4 : wr.frozen? ⟨w.heap.size + 1, 4, none⟩ = false := hd.fr 4
      have r5 : wr.cell? ⟨w.heap.size + 1, 5, none⟩ = some (.int .i64 0) := hd.cr 5
      have f5 : wr.frozen? ⟨w.heap.size + 1, 5, none⟩ = false := hd.fr 5
      have r6 : wr.cell? ⟨w.heap.size + 1, 6, none⟩ = some (.int .i64 0) := hd.cr 6
      have f6 : wr.frozen? ⟨w.heap.size + 1, 6, none⟩ = false := hd.fr 6
      have r7 : wr.cell? ⟨w.heap.size + 1, 7, none⟩ = some (.int .i64 0) := hd.cr 7
      have f7 : wr.frozen? ⟨w.heap.size + 1, 7, none⟩ = false := hd.fr 7
      clear hd heq
      go_wp2
      refine bodyPost_ret (ret_info rfl rfl (heap_set8 HDI.out.r)) rfl ?_
      refine downPost_ok (k := k) ?_ (stat_eq HDI.out.at_) (below_set8 HDI.out.below (by omega))
      rw [HG.out, HQ.out, List.drop_length]; rfl
theorem wdown_cwd {w : World} {t : Nat} {S : Tab} {T : IT.Tr} (h : Tre w t S T) (cwd : Int) (c : Cr) (a : Option Addr) (cap : Nat) (l : List ByteArray) (hrow : Row w a l) (hl : l.length ≤ maxLen) :
  Calls Tryz.prog 76 #[ask t cwd c, .bool false, .slice a l.length cap] w (DownPost T c cwd false l w) := by
 have HR := Hd hrow
 have H := Hd h
 unfold maxLen at hl
 have h2t := h.mv ((Mv.refl h.rep).alloc (.cells (askC t cwd c) 77))
 have h3t := h2t.mv ((Mv.refl h2t.rep).alloc (.cells zeroC 44))
 have h3 := stat_any h3t cwd
 have hzr : ((w.alloc (.cells (askC t cwd c) 77)).alloc (.cells zeroC 44)).heap[w.heap.size + 1]? = some (.cells zeroC 44 (0, 0)) := by
  have := aQ (w.alloc (Obj.cells (askC t cwd c) 77)) (Obj.cells zeroC 44)
  rw [aZ] at this
  exact this
 have hza : ((w.alloc (.cells (askC t cwd c) 77)).alloc (.cells zeroC 44)).heap[w.heap.size]? = some (.cells (askC t cwd c) 77 (0, 0)) := by
  rw [aP _ _ (by rw [aZ]; omega), aQ]
 have hzb : Below w.heap.size w ((w.alloc (.cells (askC t cwd c) 77)).alloc (.cells zeroC 44)) := ((Below.refl _ _).alloc (Nat.le_refl _) _).alloc (by rw [aZ]; omega) _
 have hzs : ((w.alloc (.cells (askC t cwd c) 77)).alloc (.cells zeroC 44)).heap.size = w.heap.size + 1 + 1 := by rw [aZ, aZ]
 have HZ := Hd (And.intro hzr (And.intro hza (And.intro hzb hzs)))
 clear h hrow h2t h3t hzr hza hzb hzs
 cases hT : T (startT cwd false) with
 | none =>
   have HG : Hid (goT T c cwd false (l.map bs) = (0, 3)) := Hd (by unfold goT; rw [if_pos hT])
   have HC : Hid (Calls Tryz.prog 17 #[.pointer (some ⟨t, 0, none⟩), .int .i64 cwd] ((w.alloc (.cells (askC t cwd c) 77)).alloc (.cells zeroC 44)) fun e w' => e = .returned (.tuple #[.agg #[.int .i64 0, .int .i64 0, .int .i64 0, .int .i64 0, .int .i64 0, .int .i64 0, .int .i64 0, .int .i64 0], .bool false]) ∧ Below ((w.alloc (.cells (askC t cwd c) 77)).alloc (.cells zeroC 44)).heap.size ((w.alloc (.cells (askC t cwd c) 77)).alloc (.cells zeroC 44)) w') := Hd (h3.mono (by
    rintro e w' ⟨rfl, hb⟩
    have hT' : T cwd.toNat = none := hT
    refine ⟨by unfold statV; rw [hT']; rfl, hb⟩))
   clear h3 hT
   unfold ask
   go_enter Tryz.func76, Tryz.ntmps76
   go_wp2_with fail
   refine HC.out.mono ?_
   rintro e w1 ⟨rfl, hb⟩
   have HB := Hd hb
   have hs : w.heap.size + 1 + 1 ≤ w1.heap.size := by have := hb.size; rwa [HZ.out.2.2.2] at this
   have hr : w1.heap[w.heap.size + 1]? = some (.cells zeroC 44 (0, 0)) := by
    rw [hb.block _ (by rw [HZ.out.2.2.2]; omega)]; exact HZ.out.1
   have r0 : w1.cell? ⟨w.heap.size + 1, 0, none⟩ = some (.int .i64 0) := cO hr 0
   have f0 : w1.frozen? ⟨w.heap.size + 1, 0, none⟩ = false := fO hr 0
   have r1 : w1.cell? ⟨w.heap.size + 1, 1, none⟩ = some (.int .i64 0) := cO hr 1
   have f1 : w1.frozen? ⟨w.heap.size + 1, 1, none⟩ = false := fO hr 1
   have r2 : w1.cell? ⟨w.heap.size + 1, 2, none⟩ = some (.int .i64 0) := cO hr 2
   have f2 : w1.frozen? ⟨w.heap.size + 1, 2, none⟩ = false := fO hr 2
   have r3 : w1.cell? ⟨w.heap.size + 1, 3, none⟩ = some (.int .i64 0) := cO hr 3
   have f3 : w1.frozen? ⟨w.heap.size + 1, 3, none⟩ = false := fO hr 3
   have r4 : w1.cell? ⟨w.heap.size + 1, 4, none⟩ = some (.int .i64 0) := cO hr 4
   have f4 : w1.frozen? ⟨w.heap.size + 1, 4, none⟩ = false := fO hr 4
   have r5 : w1.cell? ⟨w.heap.size + 1, 5, none⟩ = some (.int .i64 0) := cO hr 5
   have f5 : w1.frozen? ⟨w.heap.size + 1, 5, none⟩ = false := fO hr 5
   have r6 : w1.cell? ⟨w.heap.size + 1, 6, none⟩ = some (.int .i64 0) := cO hr 6
   have f6 : w1.frozen? ⟨w.heap.size + 1, 6, none⟩ = false := fO hr 6
   have r7 : w1.cell? ⟨w.heap.size + 1, 7, none⟩ = some (.int .i64 0) := cO hr 7
   have f7 : w1.frozen? ⟨w.heap.size + 1, 7, none⟩ = false := fO hr 7
   have hs1 : w.heap.size + 1 < w1.heap.size := by omega
   have hs2 : w.heap.size < w1.heap.size := by omega
   have HRR := Hd hr
   clear hb hr hs
   go_wp2
   refine bodyPost_ret (ret_info rfl rfl ((aP _ _ (by simpa [World.setCell] using hs1)).trans (heap_set8 HRR.out))) rfl ?_
   exact downPost_err HG.out (by decide) (bZ (below_set8 (HZ.out.2.2.1.trans (HB.out.mono (by rw [HZ.out.2.2.2]; omega))) (by omega)) _)
 | some m0 =>
   have HC : Hid (Calls Tryz.prog 17 #[.pointer (some ⟨t, 0, none⟩), .int .i64 cwd] ((w.alloc (.cells (askC t cwd c) 77)).alloc (.cells zeroC 44)) fun e w' => e = .returned (.tuple #[.agg (infC T (startT cwd false) m0), .bool true]) ∧ Below ((w.alloc (.cells (askC t cwd c) 77)).alloc (.cells zeroC 44)).heap.size ((w.alloc (.cells (askC t cwd c) 77)).alloc (.cells zeroC 44)) w') := Hd (h3.mono (by
    rintro e w' ⟨rfl, hb⟩
    have hT' : T cwd.toNat = some m0 := hT
    refine ⟨by unfold statV; rw [hT']; rfl, hb⟩))
   have HG : Hid (goT T c cwd false (l.map bs) = downT T c (startT cwd false) (l.map bs)) := Hd (by unfold goT; rw [if_neg (by rw [hT]; intro e; cases e)])
   have HT := Hd hT
   obtain ⟨k0, hk0⟩ : ∃ k0, k0 = startT cwd false := ⟨_, rfl⟩
   rw [← hk0] at HC HG HT
   clear h3 hT hk0
   unfold infC at HC
   unfold ask
   go_enter Tryz.func76, Tryz.ntmps76
   go_wp2_with fail
   refine HC.out.mono ?_
   rintro e w1 ⟨rfl, hb⟩
   have HD : Hid (DI w t cwd c T w.heap.size (w.heap.size + 1) w1.heap.size k0 m0 (w1.alloc (.cells (infC T k0 m0) 44))) := Hd (by
    have hs := hb.size
    rw [HZ.out.2.2.2] at hs
    refine ⟨(HZ.out.2.2.1.trans (hb.mono (by rw [HZ.out.2.2.2]; omega))).alloc (by omega) _, ?_, ?_, aQ _ _, HT.out⟩
    · rw [aP _ _ (by omega), hb.block _ (by rw [HZ.out.2.2.2]; omega)]; exact HZ.out.2.1
    · rw [aP _ _ (by omega), hb.block _ (by rw [HZ.out.2.2.2]; omega)]; exact HZ.out.1)
   have HS1 : Hid (w.heap.size + 1 < w1.heap.size) := Hd (by have hs := hb.size; rw [HZ.out.2.2.2] at hs; omega)
   have HSz : Hid (w1.heap.size < (w1.alloc (.cells (infC T k0 m0) 44)).heap.size) := Hd (by rw [aZ]; omega)
   clear hb HC
   go_wp2_with fail
   go_loopw [31] (fun iv wr => ∃ (j k : Nat) (m : IT.Nd), iv = .int .i64 j ∧ j ≤ l.length ∧ DI w t cwd c T w.heap.size (w.heap.size + 1) w1.heap.size k m wr ∧ downT T c k0 (l.map bs) = downT T c k ((l.drop j).map bs)) (fun iv _ => l.length - (intOf iv).toNat)
   case atStart => exact ⟨0, k0, m0, rfl, Nat.zero_le _, HD.out, rfl⟩
   case round =>
    clear HD
    obtain ⟨j, k, m, rfl, hj, hd, heq⟩ := hrel
    have HDI := Hd hd
    have HQ := Hd heq
    have a0 : wr.cell? ⟨w.heap.size, 0, none⟩ = some (.pointer (some ⟨t, 0, none⟩)) := hd.ca 0
    have a1 : wr.cell? ⟨w.heap.size, 1, none⟩ = some (.int .i64 cwd) := hd.ca 1
    have a2 : wr.cell? ⟨w.heap.size, 2, none⟩ = some (.int .i64 c.real) := hd.ca 2
    have a3 : wr.cell? ⟨w.heap.size, 3, none⟩ = some (.int .i64 c.eff) := hd.ca 3
    have a4 : wr.cell? ⟨w.heap.size, 4, none⟩ = some (.int .i64 c.saved) := hd.ca 4
    have a5 : wr.cell? ⟨w.heap.size, 5, none⟩ = some (.int .i64 c.group) := hd.ca 5
    have a6 : wr.cell? ⟨w.heap.size, 6, none⟩ = some (.int .i64 c.eg) := hd.ca 6
    have x0 : wr.cell? ⟨w1.heap.size, 0, none⟩ = some (.int .i64 (k : Int)) := hd.cx 0
    have x1 : wr.cell? ⟨w1.heap.size, 1, none⟩ = some (.int .i64 m.kind) := hd.cx 1
    have x2 : wr.cell? ⟨w1.heap.size, 2, none⟩ = some (.int .i64 m.mode) := hd.cx 2
    have x3 : wr.cell? ⟨w1.heap.size, 3, none⟩ = some (.int .i64 m.owner) := hd.cx 3
    have x4 : wr.cell? ⟨w1.heap.size, 4, none⟩ = some (.int .i64 m.group) := hd.cx 4
    have x5 : wr.cell? ⟨w1.heap.size, 5, none⟩ = some (.int .i64 (IT.lnk T k : Nat)) := hd.cx 5
    have x6 : wr.cell? ⟨w1.heap.size, 6, none⟩ = some (.int .i64 (m.data.length + m.names.length : Nat)) := hd.cx 6
    have x7 : wr.cell? ⟨w1.heap.size, 7, none⟩ = some (.int .i64 m.tty) := hd.cx 7
    by_cases hlt : j < l.length
    · obtain ⟨nb, no, rfl, hnb, hnc⟩ := HR.out j hlt
      have hn : wr.cell? ⟨nb, no + j, none⟩ = some (.string l[j]) := by rw [hd.below.cell (p := ⟨nb, no + j, none⟩) hnb]; exact hnc
      have hlt1 : (j : Int) < l.length := by omega
      have HN := Hd (drop_map hlt)
      have HTre := Hd (H.out.mv ((Mv.refl H.out.rep).below hd.below))
      clear hd heq hnc
      generalize hnm : l[j] = nm at *
      clear hnm
      go_wp2_with fail
      refine (wenters_any t cwd c _ _ _ _ _ _ _ _ _).mono ?_
      rintro e w2 ⟨r, rfl, hr, hb⟩
      have HD2 := Hd (HDI.out.turn hb)
      have hd := HD2.out
      have HR2 : Hid (r = entersE m c) := Hd hr
      clear hr a0 a1 a2 a3 a4 a5 a6 x0 x1 x2 x3 x4 x5 x6 x7 hn
      by_cases hz : r = 0
      · obtain rfl : r = 0 := hz
        have a0 : w2.cell? ⟨w.heap.size, 0, none⟩ = some (.pointer (some ⟨t, 0, none⟩)) := hd.ca 0
        have x0 : w2.cell? ⟨w1.heap.size, 0, none⟩ = some (.int .i64 (k : Int)) := hd.cx 0
        have HT2 := Hd (HTre.out.mv ((Mv.refl HTre.out.rep).below hb))
        have HE0 := Hd (down_step (T := T) (c := c) (n := bs nm) HDI.out.at_ HR2.out.symm)
        cases hlk : lookT T k (bs nm) with
        | none =>
          have r0 : w2.cell? ⟨w.heap.size + 1, 0, none⟩ = some (.int .i64 0) := hd.cr 0
          have f0 : w2.frozen? ⟨w.heap.size + 1, 0, none⟩ = false := hd.fr 0
          have r1 : w2.cell? ⟨w.heap.size + 1, 1, none⟩ = some (.int .i64 0) := hd.cr 1
          have f1 : w2.frozen? ⟨w.heap.size + 1, 1, none⟩ = false := hd.fr 1
          have r2 : w2.cell? ⟨w.heap.size + 1, 2, none⟩ = some (.int .i64 0) := hd.cr 2
          have f2 : w2.frozen? ⟨w.heap.size + 1, 2, none⟩ = false := hd.fr 2
          have r3 : w2.cell? ⟨w.heap.size + 1, 3, none⟩ = some (.int .i64 0) := hd.cr 3
          have f3 : w2.frozen? ⟨w.heap.size + 1, 3, none⟩ = false := hd.fr 3
          have r4 : w2.cell? ⟨w.heap.size + 1, 4, none⟩ = some (.int .i64 0) := hd.cr 4
          have f4 : w2.frozen? ⟨w.heap.size + 1, 4, none⟩ = false := hd.fr 4
          have r5 : w2.cell? ⟨w.heap.size + 1, 5, none⟩ = some (.int .i64 0) := hd.cr 5
          have f5 : w2.frozen? ⟨w.heap.size + 1, 5, none⟩ = false := hd.fr 5
          have r6 : w2.cell? ⟨w.heap.size + 1, 6, none⟩ = some (.int .i64 0) := hd.cr 6
          have f6 : w2.frozen? ⟨w.heap.size + 1, 6, none⟩ = false := hd.fr 6
          have r7 : w2.cell? ⟨w.heap.size + 1, 7, none⟩ = some (.int .i64 0) := hd.cr 7
          have f7 : w2.frozen? ⟨w.heap.size + 1, 7, none⟩ = false := hd.fr 7
          have HC : Hid (Calls Tryz.prog 14 #[.pointer (some ⟨t, 0, none⟩), .int .i64 (k : Int), .string nm] w2 fun e w' => e = .returned (.tuple #[.int .i64 0, .bool false]) ∧ w2 = w') := Hd ((look_any HT2.out k nm).mono (by
           rintro e w' ⟨rfl, hw⟩
           exact ⟨by rw [show lookT T (k : Int).toNat (bs nm) = none from hlk]; rfl, hw⟩))
          have HLK := Hd hlk
          clear hd hb hlk
          go_wp2_with fail
          refine HC.out.mono ?_
          rintro e wl ⟨rfl, rfl⟩
          go_wp2
          refine bodyPost_ret (ret_info rfl rfl (heap_set8 HD2.out.r)) rfl ?_
          refine downPost_err (k := 0) ?_ (by decide) (below_set8 HD2.out.below (by omega))
          rw [HG.out, HQ.out, HN.out, HE0.out, HLK.out]
        | some j2 =>
          obtain ⟨m2, hm2⟩ := look_there HTre.out.snd hlk
          have HM2 := Hd hm2
          have HC : Hid (Calls Tryz.prog 14 #[.pointer (some ⟨t, 0, none⟩), .int .i64 (k : Int), .string nm] w2 fun e w' => e = .returned (.tuple #[.int .i64 (j2 : Int), .bool true]) ∧ w2 = w') := Hd ((look_any HT2.out k nm).mono (by
           rintro e w' ⟨rfl, hw⟩
           exact ⟨by rw [show lookT T (k : Int).toNat (bs nm) = some j2 from hlk]; rfl, hw⟩))
          have HC2 : Hid (Calls Tryz.prog 17 #[.pointer (some ⟨t, 0, none⟩), .int .i64 (j2 : Int)] w2 fun e w' => e = .returned (.tuple #[.agg (infC T j2 m2), .bool true]) ∧ Below w2.heap.size w2 w') := Hd ((stat_any HT2.out j2).mono (by
           rintro e w' ⟨rfl, hbb⟩
           have hT' : T (j2 : Int).toNat = some m2 := hm2
           refine ⟨by unfold statV; rw [hT']; rfl, hbb⟩))
          have HLK := Hd hlk
          clear hd hb hlk hm2
          unfold infC at HC2
          go_wp2_with fail
          refine HC.out.mono ?_
          rintro e wl ⟨rfl, rfl⟩
          go_wp2_with fail
          refine HC2.out.mono ?_
          rintro e w3 ⟨rfl, hb⟩
          have HD3 := Hd (HD2.out.turn hb)
          have hd := HD3.out
          have x0 : w3.cell? ⟨w1.heap.size, 0, none⟩ = some (.int .i64 (k : Int)) := hd.cx 0
          have x1 : w3.cell? ⟨w1.heap.size, 1, none⟩ = some (.int .i64 m.kind) := hd.cx 1
          have x2 : w3.cell? ⟨w1.heap.size, 2, none⟩ = some (.int .i64 m.mode) := hd.cx 2
          have x3 : w3.cell? ⟨w1.heap.size, 3, none⟩ = some (.int .i64 m.owner) := hd.cx 3
          have x4 : w3.cell? ⟨w1.heap.size, 4, none⟩ = some (.int .i64 m.group) := hd.cx 4
          have x5 : w3.cell? ⟨w1.heap.size, 5, none⟩ = some (.int .i64 (IT.lnk T k : Nat)) := hd.cx 5
          have x6 : w3.cell? ⟨w1.heap.size, 6, none⟩ = some (.int .i64 (m.data.length + m.names.length : Nat)) := hd.cx 6
          have x7 : w3.cell? ⟨w1.heap.size, 7, none⟩ = some (.int .i64 m.tty) := hd.cx 7
          have y0 : w3.frozen? ⟨w1.heap.size, 0, none⟩ = false := hd.fx 0
          have y1 : w3.frozen? ⟨w1.heap.size, 1, none⟩ = false := hd.fx 1
          have y2 : w3.frozen? ⟨w1.heap.size, 2, none⟩ = false := hd.fx 2
          have y3 : w3.frozen? ⟨w1.heap.size, 3, none⟩ = false := hd.fx 3
          have y4 : w3.frozen? ⟨w1.heap.size, 4, none⟩ = false := hd.fx 4
          have y5 : w3.frozen? ⟨w1.heap.size, 5, none⟩ = false := hd.fx 5
          have y6 : w3.frozen? ⟨w1.heap.size, 6, none⟩ = false := hd.fx 6
          have y7 : w3.frozen? ⟨w1.heap.size, 7, none⟩ = false := hd.fx 7
          clear hd hb
          go_wp2
          go_roundw
          case rel => exact ⟨j + 1, j2, m2, by go_num, by omega, HD3.out.store HM2.out (by have := HS1.out; omega) (by have := HS1.out; omega) (by have := HS1.out; omega), by rw [HQ.out, HN.out, HE0.out, HLK.out]⟩
          case measure => simp [intOf]; omega
      · have hz1 : (r != 0) = true := by simpa using hz
        have r0 : w2.cell? ⟨w.heap.size + 1, 0, none⟩ = some (.int .i64 0) := hd.cr 0
        have f0 : w2.frozen? ⟨w.heap.size + 1, 0, none⟩ = false := hd.fr 0
        have r1 : w2.cell? ⟨w.heap.size + 1, 1, none⟩ = some (.int .i64 0) := hd.cr 1
        have f1 : w2.frozen? ⟨w.heap.size + 1, 1, none⟩ = false := hd.fr 1
        have r2 : w2.cell? ⟨w.heap.size + 1, 2, none⟩ = some (.int .i64 0) := hd.cr 2
        have f2 : w2.frozen? ⟨w.heap.size + 1, 2, none⟩ = false := hd.fr 2
        have r3 : w2.cell? ⟨w.heap.size + 1, 3, none⟩ = some (.int .i64 0) := hd.cr 3
        have f3 : w2.frozen? ⟨w.heap.size + 1, 3, none⟩ = false := hd.fr 3
        have r4 : w2.cell? ⟨w.heap.size + 1, 4, none⟩ = some (.int .i64 0) := hd.cr 4
        have f4 : w2.frozen? ⟨w.heap.size + 1, 4, none⟩ = false := hd.fr 4
        have r5 : w2.cell? ⟨w.heap.size + 1, 5, none⟩ = some (.int .i64 0) := hd.cr 5
        have f5 : w2.frozen? ⟨w.heap.size + 1, 5, none⟩ = false := hd.fr 5
        have r6 : w2.cell? ⟨w.heap.size + 1, 6, none⟩ = some (.int .i64 0) := hd.cr 6
        have f6 : w2.frozen? ⟨w.heap.size + 1, 6, none⟩ = false := hd.fr 6
        have r7 : w2.cell? ⟨w.heap.size + 1, 7, none⟩ = some (.int .i64 0) := hd.cr 7
        have f7 : w2.frozen? ⟨w.heap.size + 1, 7, none⟩ = false := hd.fr 7
        have HNZ := Hd hz
        have HB := Hd hb
        clear hz hd hb
        go_wp2
        refine bodyPost_ret (ret_info rfl rfl (heap_set8 HD2.out.r)) rfl ?_
        refine downPost_err (k := 0) ?_ HNZ.out (below_set8 HD2.out.below (by omega))
        rw [HG.out, HQ.out, HN.out]
        unfold downT
        rw [HDI.out.at_]
        dsimp only
        rw [if_pos (by rw [← HR2.out]; exact HNZ.out), HR2.out]
    · obtain rfl : j = l.length := by omega
      clear hlt hj
      have r0 : wr.cell? ⟨w.heap.size + 1, 0, none⟩ = some (.int .i64 0) := hd.cr 0
      have f0 : wr.frozen? ⟨w.heap.size + 1, 0, none⟩ = false := hd.fr 0
      have r1 : wr.cell? ⟨w.heap.size + 1, 1, none⟩ = some (.int .i64 0) := hd.cr 1
      have f1 : wr.frozen? ⟨w.heap.size + 1, 1, none⟩ = false := hd.fr 1
      have r2 : wr.cell? ⟨w.heap.size + 1, 2, none⟩ = some (.int .i64 0) := hd.cr 2
      have f2 : wr.frozen? ⟨w.heap.size + 1, 2, none⟩ = false := hd.fr 2
      have r3 : wr.cell? ⟨w.heap.size + 1, 3, none⟩ = some (.int .i64 0) := hd.cr 3
      have f3 : wr.frozen? ⟨w.heap.size + 1, 3, none⟩ = false := hd.fr 3
      have r4 : wr.cell? ⟨w.heap.size + 1, 4, none⟩ = some (.int .i64 0) := hd.cr 4
      have f4 : wr.frozen? ⟨w.heap.size + 1, 4, none⟩ = false := hd.fr 4
      have r5 : wr.cell? ⟨w.heap.size + 1, 5, none⟩ = some (.int .i64 0) := hd.cr 5
      have f5 : wr.frozen? ⟨w.heap.size + 1, 5, none⟩ = false := hd.fr 5
      have r6 : wr.cell? ⟨w.heap.size + 1, 6, none⟩ = some (.int .i64 0) := hd.cr 6
      have f6 : wr.frozen? ⟨w.heap.size + 1, 6, none⟩ = false := hd.fr 6
      have r7 : wr.cell? ⟨w.heap.size + 1, 7, none⟩ = some (.int .i64 0) := hd.cr 7
      have f7 : wr.frozen? ⟨w.heap.size + 1, 7, none⟩ = false := hd.fr 7
      clear hd heq
      go_wp2
      refine bodyPost_ret (ret_info rfl rfl (heap_set8 HDI.out.r)) rfl ?_
      refine downPost_ok (k := k) ?_ (stat_eq HDI.out.at_) (below_set8 HDI.out.below (by omega))
      rw [HG.out, HQ.out, List.drop_length]; rfl
theorem wdown_any {w : World} {t : Nat} {S : Tab} {T : IT.Tr} (h : Tre w t S T) (cwd : Int) (c : Cr) (abs : Bool) (a : Option Addr) (cap : Nat) (l : List ByteArray) (hrow : Row w a l) (hl : l.length ≤ maxLen) :
  Calls Tryz.prog 76 #[ask t cwd c, .bool abs, .slice a l.length cap] w (DownPost T c cwd abs l w) := by
 cases abs with
 | true => exact wdown_root h cwd c a cap l hrow hl
 | false => exact wdown_cwd h cwd c a cap l hrow hl
theorem row_of_owns {W : World} {base : Nat} {v : Value} {l : List ByteArray} (h : W.ownsRow base 9 1 v l.length (l.map .string)) : ∃ a cap, v = .slice a l.length cap ∧ Row W a l ∧ l.length ≤ maxLen ∧ (∀ b o s, a = some ⟨b, o, s⟩ → base ≤ b) := by
 obtain ⟨_, ⟨rfl, h0⟩ | ⟨g, cap, cur, rfl, hb, hg, hc1, hc2, hc3, hc4⟩⟩ := h
 · refine ⟨none, 0, by rw [h0], fun j hj => by omega, by rw [h0]; exact Nat.zero_le _, fun b o s e => by cases e⟩
 · refine ⟨some ⟨g, 0, none⟩, cap, rfl, fun j hj => ⟨g, 0, rfl, lH hg, ?_⟩, by omega, fun b o s e => by cases e; exact hb⟩
   rw [cO hg, Nat.zero_add]
   have h1 : (cur.toList.take (l.length * 1))[j]? = (l.map Value.string)[j]? := by rw [hc4]
   rw [List.getElem?_take, if_pos (by omega), List.getElem?_map, List.getElem?_eq_getElem hj] at h1
   rw [← Array.getElem?_toList]; exact h1
theorem Row.below {w w' : World} {a : Option Addr} {l : List ByteArray} (h : Row w a l) (hb : Below w.heap.size w w') : Row w' a l := fun j hj => by
 obtain ⟨b, off, e, hlt, hc⟩ := h j hj
 exact ⟨b, off, e, Nat.lt_of_lt_of_le hlt hb.size, by rw [hb.cell (p := ⟨b, off + j, none⟩) hlt]; exact hc⟩
def FindPost (T : IT.Tr) (c : Cr) (cwd : Int) (s : ByteArray) (w : World) (e : Ending) (w' : World) : Prop :=
 ∃ v : Value, e = .returned (.tuple #[v, .int .i64 (findT T c cwd (bs s)).2]) ∧ v = (if (findT T c cwd (bs s)).2 = 0 then statV T (findT T c cwd (bs s)).1 else noInfo) ∧ Below w.heap.size w w'
theorem findPost_err {T : IT.Tr} {c : Cr} {cwd : Int} {s : ByteArray} {w w' : World} {k : Nat} {r : Int} (h : findT T c cwd (bs s) = (k, r)) (hr : r ≠ 0) (hb : Below w.heap.size w w') : FindPost T c cwd s w (.returned (.tuple #[noInfo, .int .i64 r])) w' := by
 unfold FindPost
 rw [h]
 exact ⟨_, rfl, by rw [if_neg hr], hb⟩
theorem findPost_ok {T : IT.Tr} {c : Cr} {cwd : Int} {s : ByteArray} {w w' : World} {k : Nat} {v : Value} (h : findT T c cwd (bs s) = (k, 0)) (hv : v = statV T k) (hb : Below w.heap.size w w') : FindPost T c cwd s w (.returned (.tuple #[v, .int .i64 0])) w' := by
 unfold FindPost
 rw [h]
 exact ⟨_, rfl, by rw [if_pos rfl]; exact hv, hb⟩
theorem split_of {s : ByteArray} {abs dir : Bool} {l : List ByteArray} {err : Int} (h : Pp.splitS s.data.toList = (abs, dir, l.map (fun x : ByteArray => x.data.toList), err)) : Pp.splitS (bs s) = (abs, dir, l.map bs, err) := h
theorem two_blocks {w w1 : World} {A B : Array Value} {TA TB : TypeId} (hb : Below (w.heap.size + 1 + 1) ((w.alloc (.cells A TA)).alloc (.cells B TB)) w1) : w1.heap[w.heap.size]? = some (.cells A TA (0, 0)) ∧ w1.heap[w.heap.size + 1]? = some (.cells B TB (0, 0)) ∧ w.heap.size + 1 < w1.heap.size ∧ Below w.heap.size w w1 := by
 have hs := hb.size
 rw [aZ, aZ] at hs
 refine ⟨?_, ?_, by omega, (((Below.refl _ _).alloc (Nat.le_refl _) _).alloc (by rw [aZ]; omega) _).trans (hb.mono (by omega))⟩
 · rw [hb.block _ (by omega), aP _ _ (by rw [aZ]; omega), aQ]
 · have := aQ (w.alloc (Obj.cells A TA)) (Obj.cells B TB)
   rw [aZ] at this
   rw [hb.block _ (by omega)]; exact this
theorem wfind_any {w : World} {t : Nat} {S : Tab} {T : IT.Tr} (h : Tre w t S T) (cwd : Int) (c : Cr) (s : ByteArray) :
  Calls Tryz.prog 38 #[ask t cwd c, .string s] w (FindPost T c cwd s w) := by
 have H := Hd h
 clear h
 have HF := Hd (rfl : findT T c cwd (bs s) = findT T c cwd (bs s))
 unfold ask
 go_enter Tryz.func38, Tryz.ntmps38
 go_wp2_with fail
 refine (Pp.split_any s _).mono ?_
 rintro e w1 ⟨abs, dir, v, l, err, rfl, hown, hb, hsp⟩
 obtain ⟨a, cap, rfl, hrow, hlen, _⟩ := row_of_owns hown
 have HSP := Hd (split_of hsp)
 rw [aZ, aZ] at hb
 obtain ⟨b0, b1, hlt, hbb⟩ := two_blocks hb
 have HROW := Hd hrow
 have HLEN := Hd hlen
 have HBB := Hd hbb
 have HLT := Hd hlt
 have HB0 := Hd b0
 have HB1 := Hd b1
 by_cases he : err = 0
 · subst he
   have HX := Hd (rfl : goT T c cwd abs (l.map bs) = goT T c cwd abs (l.map bs))
   have ho : w1.heap[w.heap.size]? = some (.cells (askC t cwd c) 77 (0, 0)) := b0
   have a0 : w1.cell? ⟨w.heap.size, 0, none⟩ = some (.pointer (some ⟨t, 0, none⟩)) := cO ho 0
   have a1 : w1.cell? ⟨w.heap.size, 1, none⟩ = some (.int .i64 cwd) := cO ho 1
   have a2 : w1.cell? ⟨w.heap.size, 2, none⟩ = some (.int .i64 c.real) := cO ho 2
   have a3 : w1.cell? ⟨w.heap.size, 3, none⟩ = some (.int .i64 c.eff) := cO ho 3
   have a4 : w1.cell? ⟨w.heap.size, 4, none⟩ = some (.int .i64 c.saved) := cO ho 4
   have a5 : w1.cell? ⟨w.heap.size, 5, none⟩ = some (.int .i64 c.group) := cO ho 5
   have a6 : w1.cell? ⟨w.heap.size, 6, none⟩ = some (.int .i64 c.eg) := cO ho 6
   have hlt2 : w.heap.size < w1.heap.size := by omega
   clear hown hb hsp b0 b1 hbb hrow hlen ho
   go_wp2_with fail
   have hbp := bZ HBB.out (.cells #[.bool abs, .slice a l.length cap, .bool dir] 70)
   refine (wdown_any (H.out.mv ((Mv.refl H.out.rep).below hbp)) cwd c abs a cap l (HROW.out.below ((Below.refl _ _).alloc (Nat.le_refl _) _)) HLEN.out).mono ?_
   rintro e w2 ⟨v, rfl, hv, hb2⟩
   have hgo := go_there (c := c) (cwd := cwd) (abs := abs) (l := l.map bs) H.out.snd
   obtain ⟨⟨k, r⟩, hg⟩ : ∃ g, goT T c cwd abs (l.map bs) = g := ⟨_, rfl⟩
   rw [hg] at hv hgo ⊢
   dsimp only at hv hgo
   have HG := Hd hg
   have q0 := (hb2.block _ (by rw [aZ]; omega)).trans ((aP _ _ (by omega)).trans HB1.out)
   have qp := (hb2.block _ (by rw [aZ]; omega)).trans (aQ w1 (.cells #[.bool abs, .slice a l.length cap, .bool dir] 70))
   have p2 : w2.cell? ⟨w1.heap.size, 2, none⟩ = some (.bool dir) := cO qp 2
   have r0 : w2.cell? ⟨w.heap.size + 1, 0, none⟩ = some (.int .i64 0) := cO q0 0
   have f0 : w2.frozen? ⟨w.heap.size + 1, 0, none⟩ = false := fO q0 0
   have r1 : w2.cell? ⟨w.heap.size + 1, 1, none⟩ = some (.int .i64 0) := cO q0 1
   have f1 : w2.frozen? ⟨w.heap.size + 1, 1, none⟩ = false := fO q0 1
   have r2 : w2.cell? ⟨w.heap.size + 1, 2, none⟩ = some (.int .i64 0) := cO q0 2
   have f2 : w2.frozen? ⟨w.heap.size + 1, 2, none⟩ = false := fO q0 2
   have r3 : w2.cell? ⟨w.heap.size + 1, 3, none⟩ = some (.int .i64 0) := cO q0 3
   have f3 : w2.frozen? ⟨w.heap.size + 1, 3, none⟩ = false := fO q0 3
   have r4 : w2.cell? ⟨w.heap.size + 1, 4, none⟩ = some (.int .i64 0) := cO q0 4
   have f4 : w2.frozen? ⟨w.heap.size + 1, 4, none⟩ = false := fO q0 4
   have r5 : w2.cell? ⟨w.heap.size + 1, 5, none⟩ = some (.int .i64 0) := cO q0 5
   have f5 : w2.frozen? ⟨w.heap.size + 1, 5, none⟩ = false := fO q0 5
   have r6 : w2.cell? ⟨w.heap.size + 1, 6, none⟩ = some (.int .i64 0) := cO q0 6
   have f6 : w2.frozen? ⟨w.heap.size + 1, 6, none⟩ = false := fO q0 6
   have r7 : w2.cell? ⟨w.heap.size + 1, 7, none⟩ = some (.int .i64 0) := cO q0 7
   have f7 : w2.frozen? ⟨w.heap.size + 1, 7, none⟩ = false := fO q0 7
   have HQ0 := Hd q0
   have hlt3 : w1.heap.size < w2.heap.size := by have := hb2.size; rw [aZ] at this; omega
   have hlt4 : w.heap.size + 1 < w2.heap.size := by omega
   have hlt5 : w.heap.size < w2.heap.size := by omega
   have HLT4 := Hd hlt4
   have HB2 : Hid (Below w.heap.size w w2) := Hd (hbp.trans (hb2.mono (by rw [aZ]; omega)))
   clear hg hb2 hbp q0 qp a0 a1 a2 a3 a4 a5 a6
   by_cases hr : r = 0
   · subst hr
     obtain ⟨m, hm⟩ := hgo rfl
     have hv2 : v = .agg (infC T k m) := by rw [hv, if_pos rfl, ← stat_eq hm]
     unfold infC at hv2
     subst hv2
     have HM := Hd hm
     clear hm hgo hv
     cases dir with
     | false =>
       have HE : Hid (findT T c cwd (bs s) = (k, 0)) := Hd (by
        unfold findT
        rw [HSP.out]
        dsimp only
        rw [if_neg (by decide), HG.out, if_neg (fun hh => hh rfl), if_neg (by simp)])
       go_wp2
       refine bodyPost_ret (ret_info rfl rfl ((aP _ _ (by simpa [World.setCell] using HLT4.out)).trans (heap_set8 HQ0.out))) rfl ?_
       exact findPost_ok HE.out (stat_eq HM.out) (bZ (below_set8 HB2.out (by omega)) _)
     | true =>
       by_cases hk : m.kind = 1
       · have hk1 : (m.kind != 1) = false := by simpa using hk
         have HE : Hid (findT T c cwd (bs s) = (k, 0)) := Hd (by
          unfold findT
          rw [HSP.out]
          dsimp only
          rw [if_neg (by decide), HG.out, if_neg (fun hh => hh rfl), if_neg (by
           rintro ⟨_, h2⟩
           unfold kindT at h2
           rw [HM.out] at h2
           exact h2 hk)])
         clear hk
         go_wp2
         refine bodyPost_ret (ret_info rfl rfl ((aP _ _ (by simpa [World.setCell] using HLT4.out)).trans (heap_set8 HQ0.out))) rfl ?_
         exact findPost_ok HE.out (stat_eq HM.out) (bZ (below_set8 HB2.out (by omega)) _)
       · have hk1 : (m.kind != 1) = true := by simpa using hk
         have HE : Hid (findT T c cwd (bs s) = (0, 6)) := Hd (by
          unfold findT
          rw [HSP.out]
          dsimp only
          rw [if_neg (by decide), HG.out, if_neg (fun hh => hh rfl), if_pos]
          refine ⟨rfl, ?_⟩
          unfold kindT
          rw [HM.out]
          exact hk)
         clear hk
         go_wp2
         refine bodyPost_ret (ret_info rfl rfl ((aP _ _ (by simpa [World.setCell] using HLT4.out)).trans (heap_set8 HQ0.out))) rfl ?_
         exact findPost_err HE.out (by decide) (bZ (below_set8 HB2.out (by omega)) _)
   · have hr1 : (r == 0) = false := by simpa using hr
     have hv2 : v = noInfo := by rw [hv, if_neg hr]
     unfold noInfo at hv2
     subst hv2
     have HE : Hid (findT T c cwd (bs s) = (0, r)) := Hd (by
      unfold findT
      rw [HSP.out]
      dsimp only
      rw [if_neg (by decide), HG.out, if_pos hr])
     have HR := Hd hr
     clear hgo hv hr
     go_wp2
     refine bodyPost_ret (ret_info rfl rfl ((aP _ _ (by simpa [World.setCell] using HLT4.out)).trans (heap_set8 HQ0.out))) rfl ?_
     exact findPost_err HE.out HR.out (bZ (below_set8 HB2.out (by omega)) _)
 · have he1 : (err != 0) = true := by simpa using he
   have r0 : w1.cell? ⟨w.heap.size + 1, 0, none⟩ = some (.int .i64 0) := cO b1 0
   have f0 : w1.frozen? ⟨w.heap.size + 1, 0, none⟩ = false := fO b1 0
   have r1 : w1.cell? ⟨w.heap.size + 1, 1, none⟩ = some (.int .i64 0) := cO b1 1
   have f1 : w1.frozen? ⟨w.heap.size + 1, 1, none⟩ = false := fO b1 1
   have r2 : w1.cell? ⟨w.heap.size + 1, 2, none⟩ = some (.int .i64 0) := cO b1 2
   have f2 : w1.frozen? ⟨w.heap.size + 1, 2, none⟩ = false := fO b1 2
   have r3 : w1.cell? ⟨w.heap.size + 1, 3, none⟩ = some (.int .i64 0) := cO b1 3
   have f3 : w1.frozen? ⟨w.heap.size + 1, 3, none⟩ = false := fO b1 3
   have r4 : w1.cell? ⟨w.heap.size + 1, 4, none⟩ = some (.int .i64 0) := cO b1 4
   have f4 : w1.frozen? ⟨w.heap.size + 1, 4, none⟩ = false := fO b1 4
   have r5 : w1.cell? ⟨w.heap.size + 1, 5, none⟩ = some (.int .i64 0) := cO b1 5
   have f5 : w1.frozen? ⟨w.heap.size + 1, 5, none⟩ = false := fO b1 5
   have r6 : w1.cell? ⟨w.heap.size + 1, 6, none⟩ = some (.int .i64 0) := cO b1 6
   have f6 : w1.frozen? ⟨w.heap.size + 1, 6, none⟩ = false := fO b1 6
   have r7 : w1.cell? ⟨w.heap.size + 1, 7, none⟩ = some (.int .i64 0) := cO b1 7
   have f7 : w1.frozen? ⟨w.heap.size + 1, 7, none⟩ = false := fO b1 7
   have HE := Hd he
   have hlt2 : w.heap.size < w1.heap.size := by omega
   clear hown hb hsp b0 b1 hbb hrow hlen he
   go_wp2
   refine bodyPost_ret (ret_info rfl rfl ((aP _ _ (by simpa [World.setCell] using HLT.out)).trans (heap_set8 HB1.out))) rfl ?_
   refine findPost_err (k := 0) ?_ HE.out (bZ (below_set8 HBB.out (by omega)) _)
   unfold findT
   rw [HSP.out]
   dsimp only
   rw [if_pos HE.out]
section
variable {P : Program} {W : World} {R : Nat} {T : TypeId} {f : Nat × Nat} {C C' : Array Value}
theorem heap_setRow_same (h : W.heap[R]? = some (.cells C T f)) : (W.setRow R C').heap[R]? = some (.cells C' T f) := by
 simp [World.setRow, Array.getElem?_modify, h]
theorem heap_setRow_other {b : Nat} (hb : b ≠ R) : (W.setRow R C').heap[b]? = W.heap[b]? := by
 simp only [World.setRow, Array.getElem?_modify]
 rw [if_neg (Ne.symm hb)]
theorem setRow_size : (W.setRow R C').heap.size = W.heap.size := by simp [World.setRow]
theorem below_setRow {n : Nat} {w : World} (h : Below n w W) (hn : n ≤ R) : Below n w (W.setRow R C') :=
 h.trans ⟨rfl, rfl, rfl, by rw [setRow_size]; exact Nat.le_refl _, fun b hb => heap_setRow_other (by omega)⟩
theorem sc_blk (h : W.heap[R]? = some (.cells C T (0, 0))) (o : Nat) (vs : List Value) (hC' : (C.toList.take o ++ vs ++ C.toList.drop (o + vs.length)).toArray = C') (hle : o + vs.length ≤ C.size) (h1 : ∀ v ∈ vs, v.oneCell' = true) : (storeCells ⟨R, o, none⟩ vs 0).run P W = .ok () (W.setRow R C') := by
 have := run_storeCells_at (P := P) R o T vs 0 C W h (by omega) h1
 rw [Nat.add_zero, hC'] at this
 exact this
theorem ret_blk {fn : Func} {tmps : Array Value} {ty : TypeId} {p u : Tmp} {d : TypeDesc} (hres : fn.results = #[.cell p ty, .tmp u]) (hp : tmps.getD p undef = .pointer (some ⟨R, 0, none⟩))
  (hR : W.heap[R]? = some (.cells C T f)) (hu : P.underlying ty = some d) (hd : (match d with | .struct _ | .array _ _ => true | _ => false) = true) (hi : (P.info? ty).map (·.size) = some C.size) : (results fn tmps).run P W = .ok (.tuple #[.agg C, tmps.getD u undef]) W := by
 rw [results_cell_tmp hres, hp]
 have h1 := run_loadVar_row W R T ty C f d hR hu hd hi
 show ((loadVar ty ⟨R, 0, none⟩).run P W).andThen (fun v w₂ => Result.ok (Value.tuple #[v, tmps.getD u undef]) w₂) = _
 rw [h1]; rfl
end
def putA : Array Value → Nat → List Value → Array Value
 | C, _, [] => C
 | C, o, v :: r => putA (C.setIfInBounds o v) (o + 1) r
theorem heap_setCells {R : Nat} {T : TypeId} {f : Nat × Nat} : ∀ (vs : List Value) (o : Nat) (C : Array Value) (W : World), W.heap[R]? = some (.cells C T f) → (W.setCells R o vs).heap[R]? = some (.cells (putA C o vs) T f)
 | [], _, _, _, h => h
 | v :: r, o, C, W, h => heap_setCells r (o + 1) _ _ (heap_setCell_same h v)
theorem setCells_size {R : Nat} : ∀ (vs : List Value) (o : Nat) (W : World), (W.setCells R o vs).heap.size = W.heap.size
 | [], _, _ => rfl
 | v :: r, o, W => by rw [World.setCells, setCells_size r]; simp [World.setCell]
theorem below_setCells {R n : Nat} {w : World} (hn : n ≤ R) : ∀ (vs : List Value) (o : Nat) (W : World), Below n w W → Below n w (W.setCells R o vs)
 | [], _, _, h => h
 | v :: r, o, W, h => below_setCells hn r (o + 1) _ (h.setCell hn _)
theorem heap_setCells_other {R b : Nat} (hb : b ≠ R) : ∀ (vs : List Value) (o : Nat) (W : World), (W.setCells R o vs).heap[b]? = W.heap[b]?
 | [], _, _ => rfl
 | v :: r, o, W => by rw [World.setCells, heap_setCells_other hb r, Below.heap_setCell _ _ _ _ hb]
theorem range_of {W : World} {R : Nat} {C : Array Value} {T : TypeId} {f : Nat × Nat} (h : W.heap[R]? = some (.cells C T f)) : W.rangeAt R 0 C.toList := fun j v hv => by
 rw [Nat.zero_add, cO h j]; simpa using hv
theorem there_of {W : World} {R : Nat} {C : Array Value} {T : TypeId} (h : W.heap[R]? = some (.cells C T (0, 0))) : W.there R 0 C.size := fun j hj => by
 refine ⟨?_, fO h _⟩
 rw [Nat.zero_add, cO h j]; simp [hj]
def zeroE : Array Value := #[.int .i64 0, .int .i64 0, .int .i64 0, .int .i64 0, .int .i64 0, .int .i64 0, .int .i64 0, .int .i64 0, .string ⟨#[]⟩, .bool false, .int .i64 0, .int .i64 0, .int .i64 0, .int .i64 0, .int .i64 0, .int .i64 0, .int .i64 0, .int .i64 0, .bool false]
def entC0 (d0 d1 d2 d3 d4 d5 d6 d7 : Int) (name : ByteArray) (must : Bool) : Array Value := #[.int .i64 d0, .int .i64 d1, .int .i64 d2, .int .i64 d3, .int .i64 d4, .int .i64 d5, .int .i64 d6, .int .i64 d7, .string name, .bool must, .int .i64 0, .int .i64 0, .int .i64 0, .int .i64 0, .int .i64 0, .int .i64 0, .int .i64 0, .int .i64 0, .bool false]
theorem entC0_one {d0 d1 d2 d3 d4 d5 d6 d7 : Int} {name : ByteArray} {must : Bool} : (entC0 d0 d1 d2 d3 d4 d5 d6 d7 name must).all (·.oneCell') = true := by
 simp [entC0, Value.oneCell']
def entC1 (d0 d1 d2 d3 d4 d5 d6 d7 : Int) (name : ByteArray) (must : Bool) (g0 g1 g2 g3 g4 g5 g6 g7 : Int) : Array Value := #[.int .i64 d0, .int .i64 d1, .int .i64 d2, .int .i64 d3, .int .i64 d4, .int .i64 d5, .int .i64 d6, .int .i64 d7, .string name, .bool must, .int .i64 g0, .int .i64 g1, .int .i64 g2, .int .i64 g3, .int .i64 g4, .int .i64 g5, .int .i64 g6, .int .i64 g7, .bool true]
theorem entC1_one {d0 d1 d2 d3 d4 d5 d6 d7 g0 g1 g2 g3 g4 g5 g6 g7 : Int} {name : ByteArray} {must : Bool} : ∀ v ∈ (entC1 d0 d1 d2 d3 d4 d5 d6 d7 name must g0 g1 g2 g3 g4 g5 g6 g7).toList, v.oneCell' = true := by
 simp [entC1, Value.oneCell']
theorem entC0_one' {d0 d1 d2 d3 d4 d5 d6 d7 : Int} {name : ByteArray} {must : Bool} : ∀ v ∈ (entC0 d0 d1 d2 d3 d4 d5 d6 d7 name must).toList, v.oneCell' = true := by
 simp [entC0, Value.oneCell']
theorem put_all {d0 d1 d2 d3 d4 d5 d6 d7 : Int} {name : ByteArray} {must : Bool} : putA zeroE 0 (entC0 d0 d1 d2 d3 d4 d5 d6 d7 name must).toList = entC0 d0 d1 d2 d3 d4 d5 d6 d7 name must := by
 apply Array.ext'
 simp [putA, zeroE, entC0]
theorem put18 {d0 d1 d2 d3 d4 d5 d6 d7 : Int} {name : ByteArray} {must : Bool} : (entC0 d0 d1 d2 d3 d4 d5 d6 d7 name must).setIfInBounds 18 (.bool true) = entC1 d0 d1 d2 d3 d4 d5 d6 d7 name must 0 0 0 0 0 0 0 0 := by
 apply Array.ext'
 simp [entC0, entC1]
theorem put8 {d0 d1 d2 d3 d4 d5 d6 d7 g0 g1 g2 g3 g4 g5 g6 g7 : Int} {name : ByteArray} {must : Bool} : putA (entC1 d0 d1 d2 d3 d4 d5 d6 d7 name must 0 0 0 0 0 0 0 0) 10 [.int .i64 g0, .int .i64 g1, .int .i64 g2, .int .i64 g3, .int .i64 g4, .int .i64 g5, .int .i64 g6, .int .i64 g7] = entC1 d0 d1 d2 d3 d4 d5 d6 d7 name must g0 g1 g2 g3 g4 g5 g6 g7 := by
 apply Array.ext'
 simp [putA, entC1]
theorem nest8 {W : World} {R : Nat} {g0 g1 g2 g3 g4 g5 g6 g7 : Int} : ((((((((W.setCell ⟨R, 10, none⟩ (.int .i64 g0)).setCell ⟨R, 11, none⟩ (.int .i64 g1)).setCell ⟨R, 12, none⟩ (.int .i64 g2)).setCell ⟨R, 13, none⟩ (.int .i64 g3)).setCell ⟨R, 14, none⟩ (.int .i64 g4)).setCell ⟨R, 15, none⟩ (.int .i64 g5)).setCell ⟨R, 16, none⟩ (.int .i64 g6)).setCell ⟨R, 17, none⟩ (.int .i64 g7)) = W.setCells R 10 [.int .i64 g0, .int .i64 g1, .int .i64 g2, .int .i64 g3, .int .i64 g4, .int .i64 g5, .int .i64 g6, .int .i64 g7] := rfl
theorem heap_e8 {W : World} {R : Nat} {T : TypeId} {d0 d1 d2 d3 d4 d5 d6 d7 g0 g1 g2 g3 g4 g5 g6 g7 : Int} {name : ByteArray} {must : Bool} (h : W.heap[R]? = some (.cells (entC1 d0 d1 d2 d3 d4 d5 d6 d7 name must 0 0 0 0 0 0 0 0) T (0, 0))) : ((((((((W.setCell ⟨R, 10, none⟩ (.int .i64 g0)).setCell ⟨R, 11, none⟩ (.int .i64 g1)).setCell ⟨R, 12, none⟩ (.int .i64 g2)).setCell ⟨R, 13, none⟩ (.int .i64 g3)).setCell ⟨R, 14, none⟩ (.int .i64 g4)).setCell ⟨R, 15, none⟩ (.int .i64 g5)).setCell ⟨R, 16, none⟩ (.int .i64 g6)).setCell ⟨R, 17, none⟩ (.int .i64 g7)).heap[R]? = some (.cells (entC1 d0 d1 d2 d3 d4 d5 d6 d7 name must g0 g1 g2 g3 g4 g5 g6 g7) T (0, 0)) := by
 rw [nest8]
 exact (heap_setCells _ 10 _ W h).trans (by rw [put8])
theorem below_e8 {W w : World} {R n : Nat} {g0 g1 g2 g3 g4 g5 g6 g7 : Int} (hn : n ≤ R) (h : Below n w W) : Below n w ((((((((W.setCell ⟨R, 10, none⟩ (.int .i64 g0)).setCell ⟨R, 11, none⟩ (.int .i64 g1)).setCell ⟨R, 12, none⟩ (.int .i64 g2)).setCell ⟨R, 13, none⟩ (.int .i64 g3)).setCell ⟨R, 14, none⟩ (.int .i64 g4)).setCell ⟨R, 15, none⟩ (.int .i64 g5)).setCell ⟨R, 16, none⟩ (.int .i64 g6)).setCell ⟨R, 17, none⟩ (.int .i64 g7)) := by
 rw [nest8]
 exact below_setCells hn _ 10 _ h
def entC (T : IT.Tr) (dir : Nat) (m : IT.Nd) (name : ByteArray) (must : Bool) (tg : Option (Nat × IT.Nd)) : Array Value := match tg with
 | none => #[.int .i64 (dir : Nat), .int .i64 m.kind, .int .i64 m.mode, .int .i64 m.owner, .int .i64 m.group, .int .i64 (IT.lnk T dir : Nat), .int .i64 (m.data.length + m.names.length : Nat), .int .i64 m.tty, .string name, .bool must, .int .i64 0, .int .i64 0, .int .i64 0, .int .i64 0, .int .i64 0, .int .i64 0, .int .i64 0, .int .i64 0, .bool false]
 | some (k, q) => #[.int .i64 (dir : Nat), .int .i64 m.kind, .int .i64 m.mode, .int .i64 m.owner, .int .i64 m.group, .int .i64 (IT.lnk T dir : Nat), .int .i64 (m.data.length + m.names.length : Nat), .int .i64 m.tty, .string name, .bool must, .int .i64 (k : Nat), .int .i64 q.kind, .int .i64 q.mode, .int .i64 q.owner, .int .i64 q.group, .int .i64 (IT.lnk T k : Nat), .int .i64 (q.data.length + q.names.length : Nat), .int .i64 q.tty, .bool true]
def EntPost (T : IT.Tr) (c : Cr) (cwd : Int) (s : ByteArray) (w : World) (e : Ending) (w' : World) : Prop :=
 Below w.heap.size w w' ∧ match entryT T c cwd (bs s) with
  | .error r => e = .returned (.tuple #[.agg zeroE, .int .i64 r])
  | .ok x => ∃ m tg, T x.dir = some m ∧ (match x.tg with
     | none => tg = none
     | some k => ∃ q, T k = some q ∧ tg = some (k, q)) ∧ e = .returned (.tuple #[.agg (entC T x.dir m (tx x.name) x.must tg), .int .i64 0])
theorem entPost_err {T : IT.Tr} {c : Cr} {cwd : Int} {s : ByteArray} {w w' : World} {r : Int} (h : entryT T c cwd (bs s) = .error r) (hb : Below w.heap.size w w') : EntPost T c cwd s w (.returned (.tuple #[.agg zeroE, .int .i64 r])) w' := by
 unfold EntPost
 rw [h]
 exact ⟨hb, rfl⟩
theorem entPost_ok {T : IT.Tr} {c : Cr} {cwd : Int} {s : ByteArray} {w w' : World} {x : Ent} {m : IT.Nd} {tg : Option (Nat × IT.Nd)} {v : Value} (h : entryT T c cwd (bs s) = .ok x) (hm : T x.dir = some m) (ht : match x.tg with
    | none => tg = none
    | some k => ∃ q, T k = some q ∧ tg = some (k, q)) (hv : v = .agg (entC T x.dir m (tx x.name) x.must tg)) (hb : Below w.heap.size w w') : EntPost T c cwd s w (.returned (.tuple #[v, .int .i64 0])) w' := by
 unfold EntPost
 rw [h]
 exact ⟨hb, m, tg, hm, ht, by rw [hv]⟩
end Go.Proofs.YtafonmnfeibaiaaGreat
namespace Go.Proofs.YtafonmnfeibaiaaGreat
open Go.RowKit
theorem row_of_owns2 {W : World} {base : Nat} {v : Value} {l : List ByteArray} (h : W.ownsRow base 9 1 v l.length (l.map .string)) : ∃ a cap, v = .slice a l.length cap ∧ Row W a l ∧ l.length ≤ cap ∧ cap ≤ maxLen := by
 obtain ⟨a, cap, e, hr, hl, _⟩ := row_of_owns h
 refine ⟨a, cap, e, hr, ?_⟩
 obtain ⟨_, ⟨h1, h2⟩ | ⟨g, cap2, cur, h1, h3, h4, h5, h6, h7, h8⟩⟩ := h
 · rw [e] at h1
   injection h1 with x1 x2 x3
   exact ⟨by omega, by rw [x3]; exact Nat.zero_le _⟩
 · rw [e] at h1
   injection h1 with x1 x2 x3
   exact ⟨by omega, by omega⟩
theorem snoc {α : Type} (l : List α) : l = [] ∨ ∃ m x, l = m ++ [x] := by
 rcases List.eq_nil_or_concat l with h | ⟨m, x, h⟩
 · exact .inl h
 · exact .inr ⟨m, x, by rw [h, List.concat_eq_append]⟩
theorem last_of {l : List ByteArray} {x : ByteArray} : ((l ++ [x]).map bs).getLast? = some (bs x) := by simp
theorem init_of {l : List ByteArray} {x : ByteArray} : ((l ++ [x]).map bs).dropLast = l.map bs := by simp
theorem Row.init {w : World} {a : Option Addr} {l : List ByteArray} {x : ByteArray} (h : Row w a (l ++ [x])) : Row w a l := fun j hj => by
 obtain ⟨b, off, e, hlt, hc⟩ := h j (by simp; omega)
 exact ⟨b, off, e, hlt, by rw [hc, List.getElem_append_left hj]⟩
theorem Row.last {w : World} {a : Option Addr} {l : List ByteArray} {x : ByteArray} (h : Row w a (l ++ [x])) : ∃ b off, a = some ⟨b, off, none⟩ ∧ b < w.heap.size ∧ w.cell? ⟨b, off + l.length, none⟩ = some (.string x) := by
 obtain ⟨b, off, e, hlt, hc⟩ := h l.length (by simp)
 exact ⟨b, off, e, hlt, by rw [hc]; simp⟩
theorem infC_inj {T : IT.Tr} {k : Nat} {m : IT.Nd} {d0 d1 d2 d3 d4 d5 d6 d7 : Int} (h : infC T k m = #[.int .i64 d0, .int .i64 d1, .int .i64 d2, .int .i64 d3, .int .i64 d4, .int .i64 d5, .int .i64 d6, .int .i64 d7]) : (k : Int) = d0 ∧ m.kind = d1 ∧ m.mode = d2 ∧ m.owner = d3 ∧ m.group = d4 ∧ (IT.lnk T k : Int) = d5 ∧ ((m.data.length + m.names.length : Nat) : Int) = d6 ∧ m.tty = d7 := by
 unfold infC at h
 simpa using h
theorem wdown_ints {w : World} {t : Nat} {S : Tab} {T : IT.Tr} (h : Tre w t S T) (cwd : Int) (c : Cr) (abs : Bool) (a : Option Addr) (cap : Nat) (l : List ByteArray) (hrow : Row w a l) (hl : l.length ≤ maxLen) {k : Nat} {r : Int} (hg : goT T c cwd abs (l.map bs) = (k, r)) :
  ∃ d0 d1 d2 d3 d4 d5 d6 d7 : Int, (r = 0 → ∃ m, T k = some m ∧ infC T k m = #[.int .i64 d0, .int .i64 d1, .int .i64 d2, .int .i64 d3, .int .i64 d4, .int .i64 d5, .int .i64 d6, .int .i64 d7]) ∧ ∀ W', Below w.heap.size w W' → Calls Tryz.prog 76 #[ask t cwd c, .bool abs, .slice a l.length cap] W' fun e w' => e = .returned (.tuple #[.agg #[.int .i64 d0, .int .i64 d1, .int .i64 d2, .int .i64 d3, .int .i64 d4, .int .i64 d5, .int .i64 d6, .int .i64 d7], .int .i64 r]) ∧ Below W'.heap.size W' w' := by
 have HD : ∀ W', Below w.heap.size w W' → Calls Tryz.prog 76 #[ask t cwd c, .bool abs, .slice a l.length cap] W' (DownPost T c cwd abs l W') := fun W' hb => wdown_any (h.mv ((Mv.refl h.rep).below hb)) cwd c abs a cap l (hrow.below hb) hl
 by_cases hr : r = 0
 · subst hr
   have hgo := go_there (c := c) (cwd := cwd) (abs := abs) (l := l.map bs) h.snd
   rw [hg] at hgo
   obtain ⟨m, hm⟩ := hgo rfl
   refine ⟨k, m.kind, m.mode, m.owner, m.group, (IT.lnk T k : Nat), (m.data.length + m.names.length : Nat), m.tty, fun _ => ⟨m, hm, rfl⟩, fun W' hb => (HD W' hb).mono ?_⟩
   rintro e w' ⟨v, rfl, hv, hb2⟩
   rw [hg] at hv ⊢
   refine ⟨?_, hb2⟩
   rw [hv, if_pos rfl, ← stat_eq hm]
   rfl
 · refine ⟨0, 0, 0, 0, 0, 0, 0, 0, fun h0 => absurd h0 hr, fun W' hb => (HD W' hb).mono ?_⟩
   rintro e w' ⟨v, rfl, hv, hb2⟩
   rw [hg] at hv ⊢
   refine ⟨?_, hb2⟩
   rw [hv, if_neg hr]
   rfl
theorem wentry_any {w : World} {t : Nat} {S : Tab} {T : IT.Tr} (h : Tre w t S T) (cwd : Int) (c : Cr) (s : ByteArray) :
  Calls Tryz.prog 33 #[ask t cwd c, .string s] w (EntPost T c cwd s w) := by
 have H := Hd h
 clear h
 unfold ask
 go_enter Tryz.func33, Tryz.ntmps33
 go_wp2_with fail
 refine (Pp.split_any s _).mono ?_
 rintro e w1 ⟨abs, dir, v, l, err, rfl, hown, hb, hsp⟩
 obtain ⟨a, cap, rfl, hrow, hlc, hcm⟩ := row_of_owns2 hown
 have hlen : l.length ≤ maxLen := Nat.le_trans hlc hcm
 have HSP := Hd (split_of hsp)
 rw [aZ, aZ] at hb
 obtain ⟨b0, b1, hlt, hbb⟩ := two_blocks hb
 have HROW := Hd hrow
 have HLEN := Hd hlen
 have HBB := Hd hbb
 have HLT := Hd hlt
 have HB0 := Hd b0
 have HB1 := Hd b1
 by_cases he : err = 0
 · subst he
   rcases snoc l with rfl | ⟨l, x0, rfl⟩
   · have hs1 : w.heap.size + 1 < w1.heap.size := hlt
     have hs2 : w.heap.size < w1.heap.size := by omega
     have HE : Hid (entryT T c cwd (bs s) = .error 1) := Hd (by
      unfold entryT
      rw [HSP.out]
      dsimp only
      rw [if_neg (by decide), if_pos (.inl rfl)])
     have hR : (w1.alloc (.cells #[.bool abs, .slice a 0 cap, .bool dir] 70)).heap[w.heap.size + 1]? = some (.cells zeroE 74 (0, 0)) := (aP w1 _ (by omega)).trans b1
     have hL := range_of hR
     have l2 := sc_blk (P := Tryz.prog) hR 0 zeroE.toList (C' := zeroE) rfl (Nat.le_refl _) (by decide)
     have HRR := Hd hR
     clear hown hb hsp b0 b1 hbb hrow hlen hlt hR
     go_wp2_with (refine wpList_load_mid rfl 74 _ rfl (w.heap.size + 1) 0 rfl zeroE.toList _ hL rfl rfl rfl ?_)
     refine bodyPost_ret (ret_blk rfl rfl (heap_setRow_same HRR.out) rfl rfl rfl) rfl ?_
     exact entPost_err HE.out (below_setRow (bZ HBB.out _) (by omega))
   · have hN : (l ++ [x0]).length = l.length + 1 := by simp
     rw [hN]
     have hs1 : w.heap.size + 1 < w1.heap.size := hlt
     have hs2 : w.heap.size < w1.heap.size := by omega
     have hp0 : w.heap.size + 1 < w1.heap.size + 1 := by omega
     obtain ⟨bn, on, rfl, hbn, hcn⟩ := hrow.last
     rw [hN] at hlen hlc
     have hR : (w1.alloc (.cells #[.bool abs, .slice (some ⟨bn, on, none⟩) (l.length + 1) cap, .bool dir] 70)).heap[w.heap.size + 1]? = some (.cells zeroE 74 (0, 0)) := (aP w1 _ (by omega)).trans b1
     have hL := range_of hR
     have l2 := sc_blk (P := Tryz.prog) hR 0 zeroE.toList (C' := zeroE) rfl (Nat.le_refl _) (by decide)
     have HRR := Hd hR
     have hw1 : wrap64 ((l.length : Nat) : Int) = (l.length : Nat) := by unfold maxLen at hlen; unfold wrap64; omega
     have hi1 : ((l.length : Nat) : Int) < 0 ↔ False := ⟨fun hh => absurd hh (by omega), False.elim⟩
     have hcn2 : (w1.alloc (.cells #[.bool abs, .slice (some ⟨bn, on, none⟩) (l.length + 1) cap, .bool dir] 70)).cell? ⟨bn, on + l.length, none⟩ = some (.string x0) := by rw [World.cell?_alloc_lt _ _ _ hbn]; exact hcn
     have hi2 : l.length < l.length + 1 := by omega
     clear hown hb hsp b0 b1 hbb hrow hlt hR hcn
     by_cases hd : x0 = ⟨#[46, 46]⟩
     · subst hd
       have HE : Hid (entryT T c cwd (bs s) = .error 1) := Hd (by
        unfold entryT
        rw [HSP.out]
        dsimp only
        rw [if_neg (by decide), if_pos (.inr last_of)])
       go_wp2_with (refine wpList_load_mid rfl 74 _ rfl (w.heap.size + 1) 0 rfl zeroE.toList _ hL rfl rfl rfl ?_)
       refine bodyPost_ret (ret_blk rfl rfl (heap_setRow_same HRR.out) rfl rfl rfl) rfl ?_
       exact entPost_err HE.out (below_setRow (bZ HBB.out _) (by omega))
     · have hd1 : (x0.toList == [46, 46]) = false := by rw [ByteArray.toList_eq]; exact beq_eq_false_iff_ne.2 (fun hh => hd (ByteArray.ext (Array.ext' hh)))
       have ho : (w1.alloc (.cells #[.bool abs, .slice (some ⟨bn, on, none⟩) (l.length + 1) cap, .bool dir] 70)).heap[w.heap.size]? = some (.cells (askC t cwd c) 77 (0, 0)) := (aP w1 _ (by omega)).trans HB0.out
       obtain ⟨⟨k, r⟩, hg⟩ : ∃ g, goT T c cwd abs (l.map bs) = g := ⟨_, rfl⟩
       have hpb : (w1.alloc (.cells #[.bool abs, .slice (some ⟨bn, on, none⟩) (l.length + 1) cap, .bool dir] 70)).heap[w1.heap.size]? = some (.cells #[.bool abs, .slice (some ⟨bn, on, none⟩) (l.length + 1) cap, .bool dir] 70 (0, 0)) := aQ _ _
       have hbp : Below w.heap.size w (w1.alloc (.cells #[.bool abs, .slice (some ⟨bn, on, none⟩) (l.length + 1) cap, .bool dir] 70)) := bZ HBB.out _
       have hrow0 : Row (w1.alloc (.cells #[.bool abs, .slice (some ⟨bn, on, none⟩) (l.length + 1) cap, .bool dir] 70)) (some ⟨bn, on, none⟩) l := HROW.out.init.below ((Below.refl _ _).alloc (Nat.le_refl _) _)
       have hsz : w1.heap.size < (w1.alloc (.cells #[.bool abs, .slice (some ⟨bn, on, none⟩) (l.length + 1) cap, .bool dir] 70)).heap.size := by rw [aZ]; omega
       have hi3 : (0 : Int) ≤ (l.length : Nat) := by omega
       have hi4 : ((l.length : Nat) : Int) ≤ (cap : Nat) := by omega
       have hi5 : ((l.length : Nat) : Int) ≤ (l.length + 1 : Nat) := by omega
       have hi6 : l.length ≤ cap := by omega
       go_upto_region 7 with fail
       generalize w1.alloc (.cells #[.bool abs, .slice (some ⟨bn, on, none⟩) (l.length + 1) cap, .bool dir] 70) = W0 at *
       have hBP : w.heap.size < w1.heap.size := hs2
       have hbn2 : bn < W0.heap.size := by have := hsz; omega
       have hRP : w.heap.size + 1 < w1.heap.size := hs1
       generalize hP : w1.heap.size = P at *
       generalize hB : w.heap.size = B at *
       have hBW : B < W0.heap.size := by omega
       obtain ⟨d0, d1, d2, d3, d4, d5, d6, d7, hm0, HD⟩ := wdown_ints (H.out.mv ((Mv.refl H.out.rep).below (by rw [hB]; exact hbp))) cwd c abs _ cap l hrow0 (by omega) hg
       have KP : ∀ W', Below W0.heap.size W0 W' → (Below W0.heap.size W0 W' ∧ W'.cell? ⟨B, 0, none⟩ = some (.pointer (some ⟨t, 0, none⟩)) ∧ W'.cell? ⟨B, 1, none⟩ = some (.int .i64 cwd) ∧ W'.cell? ⟨B, 2, none⟩ = some (.int .i64 c.real) ∧ W'.cell? ⟨B, 3, none⟩ = some (.int .i64 c.eff) ∧ W'.cell? ⟨B, 4, none⟩ = some (.int .i64 c.saved) ∧ W'.cell? ⟨B, 5, none⟩ = some (.int .i64 c.group) ∧ W'.cell? ⟨B, 6, none⟩ = some (.int .i64 c.eg) ∧ W'.cell? ⟨P, 0, none⟩ = some (.bool abs) ∧ W'.cell? ⟨P, 1, none⟩ = some (.slice (some ⟨bn, on, none⟩) (l.length + 1) cap)) := fun W' hb => by
        have h1 : W'.heap[B]? = some (.cells (askC t cwd c) 77 (0, 0)) := (hb.block _ hBW).trans ho
        have h2 : W'.heap[P]? = some (.cells #[.bool abs, .slice (some ⟨bn, on, none⟩) (l.length + 1) cap, .bool dir] 70 (0, 0)) := (hb.block _ hsz).trans hpb
        exact ⟨hb, cO h1 0, cO h1 1, cO h1 2, cO h1 3, cO h1 4, cO h1 5, cO h1 6, cO h2 0, cO h2 1⟩
       have HHO := Hd ho
       have HPB := Hd hpb
       have HM0 := Hd hm0
       have HRW := Hd hrow0
       have HDD : Hid (bs x0 ≠ [46, 46]) := Hd (fun hh => hd (ByteArray.ext (Array.ext' hh)))
       clear ho hd hpb hrow0 hm0
       unfold ask at HD
       have HFK : ∀ (W : World) (D : Nat), Below W0.heap.size W0 W → W.heap[D]? = some (.cells #[.int .i64 d0, .int .i64 d1, .int .i64 d2, .int .i64 d3, .int .i64 d4, .int .i64 d5, .int .i64 d6, .int .i64 d7] 44 (0, 0)) → Hid (Below B w W ∧ W.heap[B]? = some (.cells (askC t cwd c) 77 (0, 0)) ∧ W.heap[B + 1]? = some (.cells zeroE 74 (0, 0)) ∧ W.heap[P]? = some (.cells #[.bool abs, .slice (some ⟨bn, on, none⟩) (l.length + 1) cap, .bool dir] 70 (0, 0)) ∧ W.heap[D]? = some (.cells #[.int .i64 d0, .int .i64 d1, .int .i64 d2, .int .i64 d3, .int .i64 d4, .int .i64 d5, .int .i64 d6, .int .i64 d7] 44 (0, 0)) ∧ W.cell? ⟨bn, on + l.length, none⟩ = some (.string x0)) := fun W D hb hd => Hd ⟨hbp.trans (hb.mono (by omega)), (hb.block _ hBW).trans HHO.out, (hb.block _ (by omega)).trans HRR.out, (hb.block _ hsz).trans HPB.out, hd, by rw [hb.cell (p := ⟨bn, on + l.length, none⟩) hbn2]; exact hcn2⟩
       have HAD : ∀ w2, Below (W0.alloc (.cells #[.int .i64 0, .int .i64 0, .int .i64 0, .int .i64 0, .int .i64 0, .int .i64 0, .int .i64 0, .int .i64 0] 44)).drew.heap.size (W0.alloc (.cells #[.int .i64 0, .int .i64 0, .int .i64 0, .int .i64 0, .int .i64 0, .int .i64 0, .int .i64 0, .int .i64 0] 44)).drew w2 → w2.heap[W0.heap.size]? = some (.cells #[.int .i64 0, .int .i64 0, .int .i64 0, .int .i64 0, .int .i64 0, .int .i64 0, .int .i64 0, .int .i64 0] 44 (0, 0)) ∧ W0.heap.size < w2.heap.size := fun w2 hb => by
        have hs : (W0.alloc (.cells #[.int .i64 0, .int .i64 0, .int .i64 0, .int .i64 0, .int .i64 0, .int .i64 0, .int .i64 0, .int .i64 0] 44)).drew.heap.size = W0.heap.size + 1 := aZ _ _
        have h1 := (hb.block W0.heap.size (by omega)).trans (aQ W0 _)
        exact ⟨h1, lH h1⟩
       go_region_held3 (fun W' => Below W0.heap.size W0 W' ∧ W'.cell? ⟨B, 0, none⟩ = some (.pointer (some ⟨t, 0, none⟩)) ∧ W'.cell? ⟨B, 1, none⟩ = some (.int .i64 cwd) ∧ W'.cell? ⟨B, 2, none⟩ = some (.int .i64 c.real) ∧ W'.cell? ⟨B, 3, none⟩ = some (.int .i64 c.eff) ∧ W'.cell? ⟨B, 4, none⟩ = some (.int .i64 c.saved) ∧ W'.cell? ⟨B, 5, none⟩ = some (.int .i64 c.group) ∧ W'.cell? ⟨B, 6, none⟩ = some (.int .i64 c.eg) ∧ W'.cell? ⟨P, 0, none⟩ = some (.bool abs) ∧ W'.cell? ⟨P, 1, none⟩ = some (.slice (some ⟨bn, on, none⟩) (l.length + 1) cap))
        (first | (refine KP _ ?_; first
          | with_reducible exact (Below.refl _ _).drew
          | with_reducible exact Below.refl _ _
          | with_reducible exact ((Below.refl _ _).alloc (Nat.le_refl _) _).drew
          | with_reducible exact (‹Below W0.heap.size W0 _ ∧ _›).1
          | with_reducible exact hbz
          | with_reducible exact hbz.alloc hbz.size _
          | with_reducible exact below_set8 hbz (Nat.le_refl _)
          | with_reducible exact (‹Below W0.heap.size W0 _ ∧ _›).1.alloc (‹Below W0.heap.size W0 _ ∧ _›).1.size _))
        (first
          | (go_at_call 76; refine (HD _ (‹Below W0.heap.size W0 _ ∧ _›).1).mono ?_; rintro e w2 ⟨rfl, hb1⟩; have hbz : Below W0.heap.size W0 w2 := (‹Below W0.heap.size W0 _ ∧ _›).1.trans (hb1.mono (‹Below W0.heap.size W0 _ ∧ _›).1.size); have hb2 : Below W0.drew.heap.size W0.drew w2 := hb1; clear hb2)
          | (go_at_call 76; refine (HD _ (‹Below W0.heap.size W0 _ ∧ _›).1).mono ?_; rintro e w2 ⟨rfl, hb1⟩; have hbz : Below W0.heap.size W0 w2 := (‹Below W0.heap.size W0 _ ∧ _›).1.trans (hb1.mono (‹Below W0.heap.size W0 _ ∧ _›).1.size); obtain ⟨qD, hDlt⟩ := HAD _ hb1; have z0 : w2.cell? ⟨W0.heap.size, 0, none⟩ = some (.int .i64 0) := cO qD 0; have y0 : w2.frozen? ⟨W0.heap.size, 0, none⟩ = false := fO qD 0; have z1 : w2.cell? ⟨W0.heap.size, 1, none⟩ = some (.int .i64 0) := cO qD 1; have y1 : w2.frozen? ⟨W0.heap.size, 1, none⟩ = false := fO qD 1; have z2 : w2.cell? ⟨W0.heap.size, 2, none⟩ = some (.int .i64 0) := cO qD 2; have y2 : w2.frozen? ⟨W0.heap.size, 2, none⟩ = false := fO qD 2; have z3 : w2.cell? ⟨W0.heap.size, 3, none⟩ = some (.int .i64 0) := cO qD 3; have y3 : w2.frozen? ⟨W0.heap.size, 3, none⟩ = false := fO qD 3; have z4 : w2.cell? ⟨W0.heap.size, 4, none⟩ = some (.int .i64 0) := cO qD 4; have y4 : w2.frozen? ⟨W0.heap.size, 4, none⟩ = false := fO qD 4; have z5 : w2.cell? ⟨W0.heap.size, 5, none⟩ = some (.int .i64 0) := cO qD 5; have y5 : w2.frozen? ⟨W0.heap.size, 5, none⟩ = false := fO qD 5; have z6 : w2.cell? ⟨W0.heap.size, 6, none⟩ = some (.int .i64 0) := cO qD 6; have y6 : w2.frozen? ⟨W0.heap.size, 6, none⟩ = false := fO qD 6; have z7 : w2.cell? ⟨W0.heap.size, 7, none⟩ = some (.int .i64 0) := cO qD 7; have y7 : w2.frozen? ⟨W0.heap.size, 7, none⟩ = false := fO qD 7; have HQD := Hd qD; clear qD))
       · have HF := HFK _ _ (hbz.alloc hbz.size _) (aQ w2 (.cells #[.int .i64 d0, .int .i64 d1, .int .i64 d2, .int .i64 d3, .int .i64 d4, .int .i64 d5, .int .i64 d6, .int .i64 d7] 44))
         have HDS := Hd hbz.size
         have HB0W := Hd (hbz.alloc hbz.size (.cells #[.int .i64 d0, .int .i64 d1, .int .i64 d2, .int .i64 d3, .int .i64 d4, .int .i64 d5, .int .i64 d6, .int .i64 d7] 44))
         clear hb1 hbz
         generalize (w2.alloc (.cells #[.int .i64 d0, .int .i64 d1, .int .i64 d2, .int .i64 d3, .int .i64 d4, .int .i64 d5, .int .i64 d6, .int .i64 d7] 44)) = W at *
         generalize w2.heap.size = D at HF HDS ⊢
         by_cases hr : r = 0
         · subst hr
           obtain ⟨m, hm, hmv⟩ := HM0.out rfl
           have hW := HF.out
           have a0 : W.cell? ⟨B, 0, none⟩ = some (.pointer (some ⟨t, 0, none⟩)) := cO hW.2.1 0
           have a1 : W.cell? ⟨B, 1, none⟩ = some (.int .i64 cwd) := cO hW.2.1 1
           have a2 : W.cell? ⟨B, 2, none⟩ = some (.int .i64 c.real) := cO hW.2.1 2
           have a3 : W.cell? ⟨B, 3, none⟩ = some (.int .i64 c.eff) := cO hW.2.1 3
           have a4 : W.cell? ⟨B, 4, none⟩ = some (.int .i64 c.saved) := cO hW.2.1 4
           have a5 : W.cell? ⟨B, 5, none⟩ = some (.int .i64 c.group) := cO hW.2.1 5
           have a6 : W.cell? ⟨B, 6, none⟩ = some (.int .i64 c.eg) := cO hW.2.1 6
           have q0 : W.cell? ⟨D, 0, none⟩ = some (.int .i64 d0) := cO hW.2.2.2.2.1 0
           have q1 : W.cell? ⟨D, 1, none⟩ = some (.int .i64 d1) := cO hW.2.2.2.2.1 1
           have q2 : W.cell? ⟨D, 2, none⟩ = some (.int .i64 d2) := cO hW.2.2.2.2.1 2
           have q3 : W.cell? ⟨D, 3, none⟩ = some (.int .i64 d3) := cO hW.2.2.2.2.1 3
           have q4 : W.cell? ⟨D, 4, none⟩ = some (.int .i64 d4) := cO hW.2.2.2.2.1 4
           have q5 : W.cell? ⟨D, 5, none⟩ = some (.int .i64 d5) := cO hW.2.2.2.2.1 5
           have q6 : W.cell? ⟨D, 6, none⟩ = some (.int .i64 d6) := cO hW.2.2.2.2.1 6
           have q7 : W.cell? ⟨D, 7, none⟩ = some (.int .i64 d7) := cO hW.2.2.2.2.1 7
           clear hW
           go_wp2_with fail
           refine (wenters_any t cwd c _ _ _ _ _ _ _ _ _).mono ?_
           rintro e w3 ⟨r2, rfl, hr2, hb⟩
           have HF3 := HFK w3 D (HB0W.out.trans (hb.mono HB0W.out.size)) ((hb.block _ (lH HF.out.2.2.2.2.1)).trans HF.out.2.2.2.2.1)
           have HB3 := Hd (HB0W.out.trans (hb.mono HB0W.out.size))
           have HMV := Hd (infC_inj hmv)
           have HR2 : Hid (r2 = entersE m c) := Hd (by
            rw [hr2]
            obtain ⟨e0, e1, e2, e3, e4, _, _, _⟩ := HMV.out
            rw [← e1, ← e2, ← e3, ← e4]
            rfl)
           have HM := Hd hm
           clear a0 a1 a2 a3 a4 a5 a6 q0 q1 q2 q3 q4 q5 q6 q7 hr2 hmv hm hb
           by_cases hz : r2 = 0
           · subst hz
             have hW := HF3.out
             have a0 : w3.cell? ⟨B, 0, none⟩ = some (.pointer (some ⟨t, 0, none⟩)) := cO hW.2.1 0
             have q0 : w3.cell? ⟨D, 0, none⟩ = some (.int .i64 d0) := cO hW.2.2.2.2.1 0
             have q1 : w3.cell? ⟨D, 1, none⟩ = some (.int .i64 d1) := cO hW.2.2.2.2.1 1
             have q2 : w3.cell? ⟨D, 2, none⟩ = some (.int .i64 d2) := cO hW.2.2.2.2.1 2
             have q3 : w3.cell? ⟨D, 3, none⟩ = some (.int .i64 d3) := cO hW.2.2.2.2.1 3
             have q4 : w3.cell? ⟨D, 4, none⟩ = some (.int .i64 d4) := cO hW.2.2.2.2.1 4
             have q5 : w3.cell? ⟨D, 5, none⟩ = some (.int .i64 d5) := cO hW.2.2.2.2.1 5
             have q6 : w3.cell? ⟨D, 6, none⟩ = some (.int .i64 d6) := cO hW.2.2.2.2.1 6
             have q7 : w3.cell? ⟨D, 7, none⟩ = some (.int .i64 d7) := cO hW.2.2.2.2.1 7
             have p1 : w3.cell? ⟨P, 1, none⟩ = some (.slice (some ⟨bn, on, none⟩) (l.length + 1) cap) := cO hW.2.2.2.1 1
             have p2 : w3.cell? ⟨P, 2, none⟩ = some (.bool dir) := cO hW.2.2.2.1 2
             have hcn3 := hW.2.2.2.2.2
             clear hW
             have hT : w3.there (B + 1) 0 19 := there_of HF3.out.2.2.1
             have hi7 : ((l.length : Nat) : Int) < ((l.length : Nat) : Int) + 1 := by omega
             go_wp2_with fail
             go_still_tail 9, (by kernel_rfl)
             refine wpList_store_mid rfl 74 _ _ rfl (B + 1) 0 (entC0 d0 d1 d2 d3 d4 d5 d6 d7 x0 dir) rfl rfl hT rfl entC0_one ?_
             have HF4 : Hid (Below B w (World.setCells { w3 with drawn := w3.drawn + 1 } (B + 1) 0 (entC0 d0 d1 d2 d3 d4 d5 d6 d7 x0 dir).toList) ∧ (World.setCells { w3 with drawn := w3.drawn + 1 } (B + 1) 0 (entC0 d0 d1 d2 d3 d4 d5 d6 d7 x0 dir).toList).heap[B]? = some (.cells (askC t cwd c) 77 (0, 0)) ∧ (World.setCells { w3 with drawn := w3.drawn + 1 } (B + 1) 0 (entC0 d0 d1 d2 d3 d4 d5 d6 d7 x0 dir).toList).heap[B + 1]? = some (.cells (entC0 d0 d1 d2 d3 d4 d5 d6 d7 x0 dir) 74 (0, 0)) ∧ (World.setCells { w3 with drawn := w3.drawn + 1 } (B + 1) 0 (entC0 d0 d1 d2 d3 d4 d5 d6 d7 x0 dir).toList).heap[D]? = some (.cells #[.int .i64 d0, .int .i64 d1, .int .i64 d2, .int .i64 d3, .int .i64 d4, .int .i64 d5, .int .i64 d6, .int .i64 d7] 44 (0, 0))) := Hd ⟨below_setCells (by omega) _ _ _ HF3.out.1.drew, (heap_setCells_other (by omega) _ _ _).trans HF3.out.2.1, (heap_setCells _ 0 _ { w3 with drawn := w3.drawn + 1 } HF3.out.2.2.1).trans (by rw [put_all]), (heap_setCells_other (by have := HDS.out; omega) _ _ _).trans HF3.out.2.2.2.2.1⟩
             generalize World.setCells { w3 with drawn := w3.drawn + 1 } (B + 1) 0 (entC0 d0 d1 d2 d3 d4 d5 d6 d7 x0 dir).toList = W4 at *
             have hW := HF4.out
             clear a0 q0 q1 q2 q3 q4 q5 q6 q7 p1 p2 hcn3 hT hcn2 HD HAD
             have a0 : W4.cell? ⟨B, 0, none⟩ = some (.pointer (some ⟨t, 0, none⟩)) := cO hW.2.1 0
             have q0 : W4.cell? ⟨D, 0, none⟩ = some (.int .i64 d0) := cO hW.2.2.2 0
             have r8 : W4.cell? ⟨B + 1, 8, none⟩ = some (.string x0) := cO hW.2.2.1 8
             have HB4 : Hid (Below w.heap.size w W4) := Hd (by rw [hB]; exact hW.1)
             have HT4 := Hd (H.out.mv ((Mv.refl H.out.rep).below HB4.out))
             have HOK : Hid (entryT T c cwd (bs s) = .ok ⟨k, bs x0, dir, lookT T k (bs x0)⟩) := Hd (by
              unfold entryT
              rw [HSP.out]
              dsimp only
              rw [if_neg (by decide), if_neg (by
               rintro (h1 | h1)
               · simp at h1
               · rw [last_of] at h1
                 exact HDD.out (oI h1)), init_of, hg, if_neg (fun hh => hh rfl)]
              dsimp only
              rw [HM.out]
              dsimp only
              rw [if_neg (by rw [← HR2.out]; exact fun hh => hh rfl), last_of]
              rfl)
             clear hW
             cases hlk : lookT T k (bs x0) with
             | none =>
               have HC : Hid (Calls Tryz.prog 14 #[.pointer (some ⟨t, 0, none⟩), .int .i64 d0, .string x0] W4 fun e w' => e = .returned (.tuple #[.int .i64 0, .bool false]) ∧ W4 = w') := Hd ((look_any HT4.out d0 x0).mono (by
                rintro e w' ⟨rfl, hw⟩
                refine ⟨?_, hw⟩
                rw [← HMV.out.1, show lookT T (k : Int).toNat (bs x0) = none from hlk]; rfl))
               rw [hlk] at HOK
               have hq := HF4.out.2.2.1
               have r18 : W4.cell? ⟨B + 1, 18, none⟩ = some (.bool false) := cO hq 18
               have f18 : W4.frozen? ⟨B + 1, 18, none⟩ = false := fO hq 18
               have h5 : (W4.setCell ⟨B + 1, 18, none⟩ (.bool false)).heap[B + 1]? = some (.cells (entC0 d0 d1 d2 d3 d4 d5 d6 d7 x0 dir) 74 (0, 0)) := heap_setCell_same hq (.bool false)
               have H5 := Hd h5
               have HB5 : Hid (Below B w (W4.setCell ⟨B + 1, 18, none⟩ (.bool false))) := Hd (HF4.out.1.setCell (Nat.le_succ B) _)
               clear hlk hq h5
               go_wp2_with fail
               refine HC.out.mono ?_
               rintro e wl ⟨rfl, rfl⟩
               go_upto_region 17 with fail
               clear a0 q0 r8 r18 f18
               generalize W4.setCell ⟨B + 1, 18, none⟩ (.bool false) = W8 at H5 HB5 ⊢
               have hL := range_of H5.out
               have l2 := sc_blk (P := Tryz.prog) H5.out 0 (entC0 d0 d1 d2 d3 d4 d5 d6 d7 x0 dir).toList (C' := (entC0 d0 d1 d2 d3 d4 d5 d6 d7 x0 dir)) rfl (Nat.le_refl _) entC0_one'
               go_wp2_with (refine wpList_load_mid rfl 74 _ rfl (B + 1) 0 rfl (entC0 d0 d1 d2 d3 d4 d5 d6 d7 x0 dir).toList _ hL rfl rfl rfl ?_)
               refine bodyPost_ret (ret_blk rfl rfl (heap_setRow_same H5.out) rfl rfl rfl) rfl ?_
               refine entPost_ok (tg := none) HOK.out HM.out rfl ?_ (by rw [hB]; exact below_setRow HB5.out (by omega))
               obtain ⟨e0, e1, e2, e3, e4, e5, e6, e7⟩ := HMV.out
               rw [tx_bs, ← e0, ← e1, ← e2, ← e3, ← e4, ← e5, ← e6, ← e7]
               rfl
             | some j2 =>
               obtain ⟨m2, hm2⟩ := look_there H.out.snd hlk
               have HC : Hid (Calls Tryz.prog 14 #[.pointer (some ⟨t, 0, none⟩), .int .i64 d0, .string x0] W4 fun e w' => e = .returned (.tuple #[.int .i64 (j2 : Int), .bool true]) ∧ W4 = w') := Hd ((look_any HT4.out d0 x0).mono (by
                rintro e w' ⟨rfl, hw⟩
                refine ⟨?_, hw⟩
                rw [← HMV.out.1, show lookT T (k : Int).toNat (bs x0) = some j2 from hlk]; rfl))
               obtain ⟨g0, g1, g2, g3, g4, g5, g6, g7, hg2⟩ : ∃ g0 g1 g2 g3 g4 g5 g6 g7 : Int, infC T j2 m2 = #[.int .i64 g0, .int .i64 g1, .int .i64 g2, .int .i64 g3, .int .i64 g4, .int .i64 g5, .int .i64 g6, .int .i64 g7] := ⟨_, _, _, _, _, _, _, _, rfl⟩
               have hq := HF4.out.2.2.1
               have r18 : W4.cell? ⟨B + 1, 18, none⟩ = some (.bool false) := cO hq 18
               have f18 : W4.frozen? ⟨B + 1, 18, none⟩ = false := fO hq 18
               have h5 : (W4.setCell ⟨B + 1, 18, none⟩ (.bool true)).heap[B + 1]? = some (.cells (entC1 d0 d1 d2 d3 d4 d5 d6 d7 x0 dir 0 0 0 0 0 0 0 0) 74 (0, 0)) := (heap_setCell_same hq (.bool true)).trans (by rw [put18])
               have HB5 : Hid (Below B w (W4.setCell ⟨B + 1, 18, none⟩ (.bool true))) := Hd (HF4.out.1.setCell (Nat.le_succ B) _)
               have HT5 := Hd (H.out.mv ((Mv.refl H.out.rep).below (by rw [hB]; exact HB5.out)))
               have HC2 : Hid (Calls Tryz.prog 17 #[.pointer (some ⟨t, 0, none⟩), .int .i64 (j2 : Int)] (W4.setCell ⟨B + 1, 18, none⟩ (.bool true)) fun e w' => e = .returned (.tuple #[.agg #[.int .i64 g0, .int .i64 g1, .int .i64 g2, .int .i64 g3, .int .i64 g4, .int .i64 g5, .int .i64 g6, .int .i64 g7], .bool true]) ∧ Below (W4.setCell ⟨B + 1, 18, none⟩ (.bool true)).heap.size (W4.setCell ⟨B + 1, 18, none⟩ (.bool true)) w') := Hd ((stat_any HT5.out j2).mono (by
                rintro e w' ⟨rfl, hbb⟩
                have hT' : T (j2 : Int).toNat = some m2 := hm2
                refine ⟨?_, hbb⟩
                rw [hT', show statV T (j2 : Int).toNat = statV T j2 from rfl, ← stat_eq hm2, hg2]
                rfl))
               have H5 := Hd h5
               have HG2 := Hd (infC_inj hg2)
               have HM2 := Hd hm2
               rw [hlk] at HOK
               clear hlk hq h5 hm2 hg2
               go_wp2_with fail
               refine HC.out.mono ?_
               rintro e wl ⟨rfl, rfl⟩
               go_wp2_with fail
               refine HC2.out.mono ?_
               rintro e w6 ⟨rfl, hb6⟩
               have h6 : w6.heap[B + 1]? = some (.cells (entC1 d0 d1 d2 d3 d4 d5 d6 d7 x0 dir 0 0 0 0 0 0 0 0) 74 (0, 0)) := (hb6.block _ (lH H5.out)).trans H5.out
               have HB6 : Hid (Below B w w6) := Hd (HB5.out.trans (hb6.mono (by have := HB5.out.size; omega)))
               have r10 : w6.cell? ⟨B + 1, 10, none⟩ = some (.int .i64 0) := cO h6 10
               have f10 : w6.frozen? ⟨B + 1, 10, none⟩ = false := fO h6 10
               have r11 : w6.cell? ⟨B + 1, 11, none⟩ = some (.int .i64 0) := cO h6 11
               have f11 : w6.frozen? ⟨B + 1, 11, none⟩ = false := fO h6 11
               have r12 : w6.cell? ⟨B + 1, 12, none⟩ = some (.int .i64 0) := cO h6 12
               have f12 : w6.frozen? ⟨B + 1, 12, none⟩ = false := fO h6 12
               have r13 : w6.cell? ⟨B + 1, 13, none⟩ = some (.int .i64 0) := cO h6 13
               have f13 : w6.frozen? ⟨B + 1, 13, none⟩ = false := fO h6 13
               have r14 : w6.cell? ⟨B + 1, 14, none⟩ = some (.int .i64 0) := cO h6 14
               have f14 : w6.frozen? ⟨B + 1, 14, none⟩ = false := fO h6 14
               have r15 : w6.cell? ⟨B + 1, 15, none⟩ = some (.int .i64 0) := cO h6 15
               have f15 : w6.frozen? ⟨B + 1, 15, none⟩ = false := fO h6 15
               have r16 : w6.cell? ⟨B + 1, 16, none⟩ = some (.int .i64 0) := cO h6 16
               have f16 : w6.frozen? ⟨B + 1, 16, none⟩ = false := fO h6 16
               have r17 : w6.cell? ⟨B + 1, 17, none⟩ = some (.int .i64 0) := cO h6 17
               have f17 : w6.frozen? ⟨B + 1, 17, none⟩ = false := fO h6 17
               have h7 : ((((((((w6.setCell ⟨B + 1, 10, none⟩ (.int .i64 g0)).setCell ⟨B + 1, 11, none⟩ (.int .i64 g1)).setCell ⟨B + 1, 12, none⟩ (.int .i64 g2)).setCell ⟨B + 1, 13, none⟩ (.int .i64 g3)).setCell ⟨B + 1, 14, none⟩ (.int .i64 g4)).setCell ⟨B + 1, 15, none⟩ (.int .i64 g5)).setCell ⟨B + 1, 16, none⟩ (.int .i64 g6)).setCell ⟨B + 1, 17, none⟩ (.int .i64 g7)).heap[B + 1]? = some (.cells (entC1 d0 d1 d2 d3 d4 d5 d6 d7 x0 dir g0 g1 g2 g3 g4 g5 g6 g7) 74 (0, 0)) := heap_e8 h6
               have H7 := Hd h7
               have HB7 := Hd (below_e8 (g0 := g0) (g1 := g1) (g2 := g2) (g3 := g3) (g4 := g4) (g5 := g5) (g6 := g6) (g7 := g7) (Nat.le_succ B) HB6.out)
               clear hb6 h6 h7 a0 q0 r8 r18 f18
               go_upto_region 17 with fail
               clear r10 f10 r11 f11 r12 f12 r13 f13 r14 f14 r15 f15 r16 f16 r17 f17
               generalize ((((((((w6.setCell ⟨B + 1, 10, none⟩ (.int .i64 g0)).setCell ⟨B + 1, 11, none⟩ (.int .i64 g1)).setCell ⟨B + 1, 12, none⟩ (.int .i64 g2)).setCell ⟨B + 1, 13, none⟩ (.int .i64 g3)).setCell ⟨B + 1, 14, none⟩ (.int .i64 g4)).setCell ⟨B + 1, 15, none⟩ (.int .i64 g5)).setCell ⟨B + 1, 16, none⟩ (.int .i64 g6)).setCell ⟨B + 1, 17, none⟩ (.int .i64 g7)) = W8 at H7 HB7 ⊢
               have hL := range_of H7.out
               have l2 := sc_blk (P := Tryz.prog) H7.out 0 (entC1 d0 d1 d2 d3 d4 d5 d6 d7 x0 dir g0 g1 g2 g3 g4 g5 g6 g7).toList (C' := (entC1 d0 d1 d2 d3 d4 d5 d6 d7 x0 dir g0 g1 g2 g3 g4 g5 g6 g7)) rfl (Nat.le_refl _) entC1_one
               go_wp2_with (refine wpList_load_mid rfl 74 _ rfl (B + 1) 0 rfl (entC1 d0 d1 d2 d3 d4 d5 d6 d7 x0 dir g0 g1 g2 g3 g4 g5 g6 g7).toList _ hL rfl rfl rfl ?_)
               refine bodyPost_ret (ret_blk rfl rfl (heap_setRow_same H7.out) rfl rfl rfl) rfl ?_
               refine entPost_ok (tg := some (j2, m2)) HOK.out HM.out ⟨m2, HM2.out, rfl⟩ ?_ (by rw [hB]; exact below_setRow HB7.out (by omega))
               obtain ⟨e0, e1, e2, e3, e4, e5, e6, e7⟩ := HMV.out
               obtain ⟨i0, i1, i2, i3, i4, i5, i6, i7⟩ := HG2.out
               rw [tx_bs, ← e0, ← e1, ← e2, ← e3, ← e4, ← e5, ← e6, ← e7, ← i0, ← i1, ← i2, ← i3, ← i4, ← i5, ← i6, ← i7]
               rfl
           · have hz1 : (r2 != 0) = true := by simpa using hz
             have HE : Hid (entryT T c cwd (bs s) = .error r2) := Hd (by
              unfold entryT
              rw [HSP.out]
              dsimp only
              rw [if_neg (by decide), if_neg (by
               rintro (h1 | h1)
               · simp at h1
               · rw [last_of] at h1
                 exact HDD.out (oI h1)), init_of, hg, if_neg (fun hh => hh rfl)]
              dsimp only
              rw [HM.out]
              dsimp only
              rw [if_pos (by rw [← HR2.out]; exact hz), HR2.out])
             have hL := range_of HF3.out.2.2.1
             have l2 := sc_blk (P := Tryz.prog) HF3.out.2.2.1 0 zeroE.toList (C' := zeroE) rfl (Nat.le_refl _) (by decide)
             go_wp2_with (refine wpList_load_mid rfl 74 _ rfl (B + 1) 0 rfl zeroE.toList _ hL rfl rfl rfl ?_)
             refine bodyPost_ret (ret_blk rfl rfl (heap_setRow_same HF3.out.2.2.1) rfl rfl rfl) rfl ?_
             exact entPost_err HE.out (by rw [hB]; exact below_setRow HF3.out.1 (by omega))
         · have hr1 : (r == 0) = false := by simpa using hr
           have hr2 : (r != 0) = true := by simpa using hr
           have HE : Hid (entryT T c cwd (bs s) = .error r) := Hd (by
            unfold entryT
            rw [HSP.out]
            dsimp only
            rw [if_neg (by decide), if_neg (by
             rintro (h1 | h1)
             · simp at h1
             · rw [last_of] at h1
               exact HDD.out (oI h1)), init_of, hg, if_pos hr])
           have hL := range_of HF.out.2.2.1
           have l2 := sc_blk (P := Tryz.prog) HF.out.2.2.1 0 zeroE.toList (C' := zeroE) rfl (Nat.le_refl _) (by decide)
           go_wp2_with (refine wpList_load_mid rfl 74 _ rfl (B + 1) 0 rfl zeroE.toList _ hL rfl rfl rfl ?_)
           refine bodyPost_ret (ret_blk rfl rfl (heap_setRow_same HF.out.2.2.1) rfl rfl rfl) rfl ?_
           exact entPost_err HE.out (by rw [hB]; exact below_setRow HF.out.1 (by omega))
       · have HF := HFK _ _ (below_set8 (v0 := .int .i64 d0) (v1 := .int .i64 d1) (v2 := .int .i64 d2) (v3 := .int .i64 d3) (v4 := .int .i64 d4) (v5 := .int .i64 d5) (v6 := .int .i64 d6) (v7 := .int .i64 d7) hbz (Nat.le_refl W0.heap.size)) (heap_set8 HQD.out)
         have HDS : Hid (W0.heap.size ≤ W0.heap.size) := Hd (Nat.le_refl W0.heap.size)
         have HB0W := Hd (below_set8 (v0 := .int .i64 d0) (v1 := .int .i64 d1) (v2 := .int .i64 d2) (v3 := .int .i64 d3) (v4 := .int .i64 d4) (v5 := .int .i64 d5) (v6 := .int .i64 d6) (v7 := .int .i64 d7) hbz (Nat.le_refl W0.heap.size))
         clear hb1 hbz hDlt HQD z0 y0 z1 y1 z2 y2 z3 y3 z4 y4 z5 y5 z6 y6 z7 y7
         generalize ((((((((w2.setCell ⟨W0.heap.size, 0, none⟩ (.int .i64 d0)).setCell ⟨W0.heap.size, 1, none⟩ (.int .i64 d1)).setCell ⟨W0.heap.size, 2, none⟩ (.int .i64 d2)).setCell ⟨W0.heap.size, 3, none⟩ (.int .i64 d3)).setCell ⟨W0.heap.size, 4, none⟩ (.int .i64 d4)).setCell ⟨W0.heap.size, 5, none⟩ (.int .i64 d5)).setCell ⟨W0.heap.size, 6, none⟩ (.int .i64 d6)).setCell ⟨W0.heap.size, 7, none⟩ (.int .i64 d7)) = W at *
         generalize hDW : W0.heap.size = D at HF HDS ⊢
         by_cases hr : r = 0
         · subst hr
           obtain ⟨m, hm, hmv⟩ := HM0.out rfl
           have hW := HF.out
           have a0 : W.cell? ⟨B, 0, none⟩ = some (.pointer (some ⟨t, 0, none⟩)) := cO hW.2.1 0
           have a1 : W.cell? ⟨B, 1, none⟩ = some (.int .i64 cwd) := cO hW.2.1 1
           have a2 : W.cell? ⟨B, 2, none⟩ = some (.int .i64 c.real) := cO hW.2.1 2
           have a3 : W.cell? ⟨B, 3, none⟩ = some (.int .i64 c.eff) := cO hW.2.1 3
           have a4 : W.cell? ⟨B, 4, none⟩ = some (.int .i64 c.saved) := cO hW.2.1 4
           have a5 : W.cell? ⟨B, 5, none⟩ = some (.int .i64 c.group) := cO hW.2.1 5
           have a6 : W.cell? ⟨B, 6, none⟩ = some (.int .i64 c.eg) := cO hW.2.1 6
           have q0 : W.cell? ⟨D, 0, none⟩ = some (.int .i64 d0) := cO hW.2.2.2.2.1 0
           have q1 : W.cell? ⟨D, 1, none⟩ = some (.int .i64 d1) := cO hW.2.2.2.2.1 1
           have q2 : W.cell? ⟨D, 2, none⟩ = some (.int .i64 d2) := cO hW.2.2.2.2.1 2
           have q3 : W.cell? ⟨D, 3, none⟩ = some (.int .i64 d3) := cO hW.2.2.2.2.1 3
           have q4 : W.cell? ⟨D, 4, none⟩ = some (.int .i64 d4) := cO hW.2.2.2.2.1 4
           have q5 : W.cell? ⟨D, 5, none⟩ = some (.int .i64 d5) := cO hW.2.2.2.2.1 5
           have q6 : W.cell? ⟨D, 6, none⟩ = some (.int .i64 d6) := cO hW.2.2.2.2.1 6
           have q7 : W.cell? ⟨D, 7, none⟩ = some (.int .i64 d7) := cO hW.2.2.2.2.1 7
           clear hW
           go_wp2_with fail
           refine (wenters_any t cwd c _ _ _ _ _ _ _ _ _).mono ?_
           rintro e w3 ⟨r2, rfl, hr2, hb⟩
           have HF3 := HFK w3 D (HB0W.out.trans (hb.mono HB0W.out.size)) ((hb.block _ (lH HF.out.2.2.2.2.1)).trans HF.out.2.2.2.2.1)
           have HB3 := Hd (HB0W.out.trans (hb.mono HB0W.out.size))
           have HMV := Hd (infC_inj hmv)
           have HR2 : Hid (r2 = entersE m c) := Hd (by
            rw [hr2]
            obtain ⟨e0, e1, e2, e3, e4, _, _, _⟩ := HMV.out
            rw [← e1, ← e2, ← e3, ← e4]
            rfl)
           have HM := Hd hm
           clear a0 a1 a2 a3 a4 a5 a6 q0 q1 q2 q3 q4 q5 q6 q7 hr2 hmv hm hb
           by_cases hz : r2 = 0
           · subst hz
             have hW := HF3.out
             have a0 : w3.cell? ⟨B, 0, none⟩ = some (.pointer (some ⟨t, 0, none⟩)) := cO hW.2.1 0
             have q0 : w3.cell? ⟨D, 0, none⟩ = some (.int .i64 d0) := cO hW.2.2.2.2.1 0
             have q1 : w3.cell? ⟨D, 1, none⟩ = some (.int .i64 d1) := cO hW.2.2.2.2.1 1
             have q2 : w3.cell? ⟨D, 2, none⟩ = some (.int .i64 d2) := cO hW.2.2.2.2.1 2
             have q3 : w3.cell? ⟨D, 3, none⟩ = some (.int .i64 d3) := cO hW.2.2.2.2.1 3
             have q4 : w3.cell? ⟨D, 4, none⟩ = some (.int .i64 d4) := cO hW.2.2.2.2.1 4
             have q5 : w3.cell? ⟨D, 5, none⟩ = some (.int .i64 d5) := cO hW.2.2.2.2.1 5
             have q6 : w3.cell? ⟨D, 6, none⟩ = some (.int .i64 d6) := cO hW.2.2.2.2.1 6
             have q7 : w3.cell? ⟨D, 7, none⟩ = some (.int .i64 d7) := cO hW.2.2.2.2.1 7
             have p1 : w3.cell? ⟨P, 1, none⟩ = some (.slice (some ⟨bn, on, none⟩) (l.length + 1) cap) := cO hW.2.2.2.1 1
             have p2 : w3.cell? ⟨P, 2, none⟩ = some (.bool dir) := cO hW.2.2.2.1 2
             have hcn3 := hW.2.2.2.2.2
             clear hW
             have hT : w3.there (B + 1) 0 19 := there_of HF3.out.2.2.1
             have hi7 : ((l.length : Nat) : Int) < ((l.length : Nat) : Int) + 1 := by omega
             go_wp2_with fail
             go_still_tail 9, (by kernel_rfl)
             refine wpList_store_mid rfl 74 _ _ rfl (B + 1) 0 (entC0 d0 d1 d2 d3 d4 d5 d6 d7 x0 dir) rfl rfl hT rfl entC0_one ?_
             have HF4 : Hid (Below B w (World.setCells { w3 with drawn := w3.drawn + 1 } (B + 1) 0 (entC0 d0 d1 d2 d3 d4 d5 d6 d7 x0 dir).toList) ∧ (World.setCells { w3 with drawn := w3.drawn + 1 } (B + 1) 0 (entC0 d0 d1 d2 d3 d4 d5 d6 d7 x0 dir).toList).heap[B]? = some (.cells (askC t cwd c) 77 (0, 0)) ∧ (World.setCells { w3 with drawn := w3.drawn + 1 } (B + 1) 0 (entC0 d0 d1 d2 d3 d4 d5 d6 d7 x0 dir).toList).heap[B + 1]? = some (.cells (entC0 d0 d1 d2 d3 d4 d5 d6 d7 x0 dir) 74 (0, 0)) ∧ (World.setCells { w3 with drawn := w3.drawn + 1 } (B + 1) 0 (entC0 d0 d1 d2 d3 d4 d5 d6 d7 x0 dir).toList).heap[D]? = some (.cells #[.int .i64 d0, .int .i64 d1, .int .i64 d2, .int .i64 d3, .int .i64 d4, .int .i64 d5, .int .i64 d6, .int .i64 d7] 44 (0, 0))) := Hd ⟨below_setCells (by omega) _ _ _ HF3.out.1.drew, (heap_setCells_other (by omega) _ _ _).trans HF3.out.2.1, (heap_setCells _ 0 _ { w3 with drawn := w3.drawn + 1 } HF3.out.2.2.1).trans (by rw [put_all]), (heap_setCells_other (by have := HDS.out; omega) _ _ _).trans HF3.out.2.2.2.2.1⟩
             generalize World.setCells { w3 with drawn := w3.drawn + 1 } (B + 1) 0 (entC0 d0 d1 d2 d3 d4 d5 d6 d7 x0 dir).toList = W4 at *
             have hW := HF4.out
             clear a0 q0 q1 q2 q3 q4 q5 q6 q7 p1 p2 hcn3 hT hcn2 HD HAD
             have a0 : W4.cell? ⟨B, 0, none⟩ = some (.pointer (some ⟨t, 0, none⟩)) := cO hW.2.1 0
             have q0 : W4.cell? ⟨D, 0, none⟩ = some (.int .i64 d0) := cO hW.2.2.2 0
             have r8 : W4.cell? ⟨B + 1, 8, none⟩ = some (.string x0) := cO hW.2.2.1 8
             have HB4 : Hid (Below w.heap.size w W4) := Hd (by rw [hB]; exact hW.1)
             have HT4 := Hd (H.out.mv ((Mv.refl H.out.rep).below HB4.out))
             have HOK : Hid (entryT T c cwd (bs s) = .ok ⟨k, bs x0, dir, lookT T k (bs x0)⟩) := Hd (by
              unfold entryT
              rw [HSP.out]
              dsimp only
              rw [if_neg (by decide), if_neg (by
               rintro (h1 | h1)
               · simp at h1
               · rw [last_of] at h1
                 exact HDD.out (oI h1)), init_of, hg, if_neg (fun hh => hh rfl)]
              dsimp only
              rw [HM.out]
              dsimp only
              rw [if_neg (by rw [← HR2.out]; exact fun hh => hh rfl), last_of]
              rfl)
             clear hW
             cases hlk : lookT T k (bs x0) with
             | none =>
               have HC : Hid (Calls Tryz.prog 14 #[.pointer (some ⟨t, 0, none⟩), .int .i64 d0, .string x0] W4 fun e w' => e = .returned (.tuple #[.int .i64 0, .bool false]) ∧ W4 = w') := Hd ((look_any HT4.out d0 x0).mono (by
                rintro e w' ⟨rfl, hw⟩
                refine ⟨?_, hw⟩
                rw [← HMV.out.1, show lookT T (k : Int).toNat (bs x0) = none from hlk]; rfl))
               rw [hlk] at HOK
               have hq := HF4.out.2.2.1
               have r18 : W4.cell? ⟨B + 1, 18, none⟩ = some (.bool false) := cO hq 18
               have f18 : W4.frozen? ⟨B + 1, 18, none⟩ = false := fO hq 18
               have h5 : (W4.setCell ⟨B + 1, 18, none⟩ (.bool false)).heap[B + 1]? = some (.cells (entC0 d0 d1 d2 d3 d4 d5 d6 d7 x0 dir) 74 (0, 0)) := heap_setCell_same hq (.bool false)
               have H5 := Hd h5
               have HB5 : Hid (Below B w (W4.setCell ⟨B + 1, 18, none⟩ (.bool false))) := Hd (HF4.out.1.setCell (Nat.le_succ B) _)
               clear hlk hq h5
               go_wp2_with fail
               refine HC.out.mono ?_
               rintro e wl ⟨rfl, rfl⟩
               go_upto_region 17 with fail
               clear a0 q0 r8 r18 f18
               generalize W4.setCell ⟨B + 1, 18, none⟩ (.bool false) = W8 at H5 HB5 ⊢
               have hL := range_of H5.out
               have l2 := sc_blk (P := Tryz.prog) H5.out 0 (entC0 d0 d1 d2 d3 d4 d5 d6 d7 x0 dir).toList (C' := (entC0 d0 d1 d2 d3 d4 d5 d6 d7 x0 dir)) rfl (Nat.le_refl _) entC0_one'
               go_wp2_with (refine wpList_load_mid rfl 74 _ rfl (B + 1) 0 rfl (entC0 d0 d1 d2 d3 d4 d5 d6 d7 x0 dir).toList _ hL rfl rfl rfl ?_)
               refine bodyPost_ret (ret_blk rfl rfl (heap_setRow_same H5.out) rfl rfl rfl) rfl ?_
               refine entPost_ok (tg := none) HOK.out HM.out rfl ?_ (by rw [hB]; exact below_setRow HB5.out (by omega))
               obtain ⟨e0, e1, e2, e3, e4, e5, e6, e7⟩ := HMV.out
               rw [tx_bs, ← e0, ← e1, ← e2, ← e3, ← e4, ← e5, ← e6, ← e7]
               rfl
             | some j2 =>
               obtain ⟨m2, hm2⟩ := look_there H.out.snd hlk
               have HC : Hid (Calls Tryz.prog 14 #[.pointer (some ⟨t, 0, none⟩), .int .i64 d0, .string x0] W4 fun e w' => e = .returned (.tuple #[.int .i64 (j2 : Int), .bool true]) ∧ W4 = w') := Hd ((look_any HT4.out d0 x0).mono (by
                rintro e w' ⟨rfl, hw⟩
                refine ⟨?_, hw⟩
                rw [← HMV.out.1, show lookT T (k : Int).toNat (bs x0) = some j2 from hlk]; rfl))
               obtain ⟨g0, g1, g2, g3, g4, g5, g6, g7, hg2⟩ : ∃ g0 g1 g2 g3 g4 g5 g6 g7 : Int, infC T j2 m2 = #[.int .i64 g0, .int .i64 g1, .int .i64 g2, .int .i64 g3, .int .i64 g4, .int .i64 g5, .int .i64 g6, .int .i64 g7] := ⟨_, _, _, _, _, _, _, _, rfl⟩
               have hq := HF4.out.2.2.1
               have r18 : W4.cell? ⟨B + 1, 18, none⟩ = some (.bool false) := cO hq 18
               have f18 : W4.frozen? ⟨B + 1, 18, none⟩ = false := fO hq 18
               have h5 : (W4.setCell ⟨B + 1, 18, none⟩ (.bool true)).heap[B + 1]? = some (.cells (entC1 d0 d1 d2 d3 d4 d5 d6 d7 x0 dir 0 0 0 0 0 0 0 0) 74 (0, 0)) := (heap_setCell_same hq (.bool true)).trans (by rw [put18])
               have HB5 : Hid (Below B w (W4.setCell ⟨B + 1, 18, none⟩ (.bool true))) := Hd (HF4.out.1.setCell (Nat.le_succ B) _)
               have HT5 := Hd (H.out.mv ((Mv.refl H.out.rep).below (by rw [hB]; exact HB5.out)))
               have HC2 : Hid (Calls Tryz.prog 17 #[.pointer (some ⟨t, 0, none⟩), .int .i64 (j2 : Int)] (W4.setCell ⟨B + 1, 18, none⟩ (.bool true)) fun e w' => e = .returned (.tuple #[.agg #[.int .i64 g0, .int .i64 g1, .int .i64 g2, .int .i64 g3, .int .i64 g4, .int .i64 g5, .int .i64 g6, .int .i64 g7], .bool true]) ∧ Below (W4.setCell ⟨B + 1, 18, none⟩ (.bool true)).heap.size (W4.setCell ⟨B + 1, 18, none⟩ (.bool true)) w') := Hd ((stat_any HT5.out j2).mono (by
                rintro e w' ⟨rfl, hbb⟩
                have hT' : T (j2 : Int).toNat = some m2 := hm2
                refine ⟨?_, hbb⟩
                rw [hT', show statV T (j2 : Int).toNat = statV T j2 from rfl, ← stat_eq hm2, hg2]
                rfl))
               have H5 := Hd h5
               have HG2 := Hd (infC_inj hg2)
               have HM2 := Hd hm2
               rw [hlk] at HOK
               clear hlk hq h5 hm2 hg2
               go_wp2_with fail
               refine HC.out.mono ?_
               rintro e wl ⟨rfl, rfl⟩
               go_wp2_with fail
               refine HC2.out.mono ?_
               rintro e w6 ⟨rfl, hb6⟩
               have h6 : w6.heap[B + 1]? = some (.cells (entC1 d0 d1 d2 d3 d4 d5 d6 d7 x0 dir 0 0 0 0 0 0 0 0) 74 (0, 0)) := (hb6.block _ (lH H5.out)).trans H5.out
               have HB6 : Hid (Below B w w6) := Hd (HB5.out.trans (hb6.mono (by have := HB5.out.size; omega)))
               have r10 : w6.cell? ⟨B + 1, 10, none⟩ = some (.int .i64 0) := cO h6 10
               have f10 : w6.frozen? ⟨B + 1, 10, none⟩ = false := fO h6 10
               have r11 : w6.cell? ⟨B + 1, 11, none⟩ = some (.int .i64 0) := cO h6 11
               have f11 : w6.frozen? ⟨B + 1, 11, none⟩ = false := fO h6 11
               have r12 : w6.cell? ⟨B + 1, 12, none⟩ = some (.int .i64 0) := cO h6 12
               have f12 : w6.frozen? ⟨B + 1, 12, none⟩ = false := fO h6 12
               have r13 : w6.cell? ⟨B + 1, 13, none⟩ = some (.int .i64 0) := cO h6 13
               have f13 : w6.frozen? ⟨B + 1, 13, none⟩ = false := fO h6 13
               have r14 : w6.cell? ⟨B + 1, 14, none⟩ = some (.int .i64 0) := cO h6 14
               have f14 : w6.frozen? ⟨B + 1, 14, none⟩ = false := fO h6 14
               have r15 : w6.cell? ⟨B + 1, 15, none⟩ = some (.int .i64 0) := cO h6 15
               have f15 : w6.frozen? ⟨B + 1, 15, none⟩ = false := fO h6 15
               have r16 : w6.cell? ⟨B + 1, 16, none⟩ = some (.int .i64 0) := cO h6 16
               have f16 : w6.frozen? ⟨B + 1, 16, none⟩ = false := fO h6 16
               have r17 : w6.cell? ⟨B + 1, 17, none⟩ = some (.int .i64 0) := cO h6 17
               have f17 : w6.frozen? ⟨B + 1, 17, none⟩ = false := fO h6 17
               have h7 : ((((((((w6.setCell ⟨B + 1, 10, none⟩ (.int .i64 g0)).setCell ⟨B + 1, 11, none⟩ (.int .i64 g1)).setCell ⟨B + 1, 12, none⟩ (.int .i64 g2)).setCell ⟨B + 1, 13, none⟩ (.int .i64 g3)).setCell ⟨B + 1, 14, none⟩ (.int .i64 g4)).setCell ⟨B + 1, 15, none⟩ (.int .i64 g5)).setCell ⟨B + 1, 16, none⟩ (.int .i64 g6)).setCell ⟨B + 1, 17, none⟩ (.int .i64 g7)).heap[B + 1]? = some (.cells (entC1 d0 d1 d2 d3 d4 d5 d6 d7 x0 dir g0 g1 g2 g3 g4 g5 g6 g7) 74 (0, 0)) := heap_e8 h6
               have H7 := Hd h7
               have HB7 := Hd (below_e8 (g0 := g0) (g1 := g1) (g2 := g2) (g3 := g3) (g4 := g4) (g5 := g5) (g6 := g6) (g7 := g7) (Nat.le_succ B) HB6.out)
               clear hb6 h6 h7 a0 q0 r8 r18 f18
               go_upto_region 17 with fail
               clear r10 f10 r11 f11 r12 f12 r13 f13 r14 f14 r15 f15 r16 f16 r17 f17
               generalize ((((((((w6.setCell ⟨B + 1, 10, none⟩ (.int .i64 g0)).setCell ⟨B + 1, 11, none⟩ (.int .i64 g1)).setCell ⟨B + 1, 12, none⟩ (.int .i64 g2)).setCell ⟨B + 1, 13, none⟩ (.int .i64 g3)).setCell ⟨B + 1, 14, none⟩ (.int .i64 g4)).setCell ⟨B + 1, 15, none⟩ (.int .i64 g5)).setCell ⟨B + 1, 16, none⟩ (.int .i64 g6)).setCell ⟨B + 1, 17, none⟩ (.int .i64 g7)) = W8 at H7 HB7 ⊢
               have hL := range_of H7.out
               have l2 := sc_blk (P := Tryz.prog) H7.out 0 (entC1 d0 d1 d2 d3 d4 d5 d6 d7 x0 dir g0 g1 g2 g3 g4 g5 g6 g7).toList (C' := (entC1 d0 d1 d2 d3 d4 d5 d6 d7 x0 dir g0 g1 g2 g3 g4 g5 g6 g7)) rfl (Nat.le_refl _) entC1_one
               go_wp2_with (refine wpList_load_mid rfl 74 _ rfl (B + 1) 0 rfl (entC1 d0 d1 d2 d3 d4 d5 d6 d7 x0 dir g0 g1 g2 g3 g4 g5 g6 g7).toList _ hL rfl rfl rfl ?_)
               refine bodyPost_ret (ret_blk rfl rfl (heap_setRow_same H7.out) rfl rfl rfl) rfl ?_
               refine entPost_ok (tg := some (j2, m2)) HOK.out HM.out ⟨m2, HM2.out, rfl⟩ ?_ (by rw [hB]; exact below_setRow HB7.out (by omega))
               obtain ⟨e0, e1, e2, e3, e4, e5, e6, e7⟩ := HMV.out
               obtain ⟨i0, i1, i2, i3, i4, i5, i6, i7⟩ := HG2.out
               rw [tx_bs, ← e0, ← e1, ← e2, ← e3, ← e4, ← e5, ← e6, ← e7, ← i0, ← i1, ← i2, ← i3, ← i4, ← i5, ← i6, ← i7]
               rfl
           · have hz1 : (r2 != 0) = true := by simpa using hz
             have HE : Hid (entryT T c cwd (bs s) = .error r2) := Hd (by
              unfold entryT
              rw [HSP.out]
              dsimp only
              rw [if_neg (by decide), if_neg (by
               rintro (h1 | h1)
               · simp at h1
               · rw [last_of] at h1
                 exact HDD.out (oI h1)), init_of, hg, if_neg (fun hh => hh rfl)]
              dsimp only
              rw [HM.out]
              dsimp only
              rw [if_pos (by rw [← HR2.out]; exact hz), HR2.out])
             have hL := range_of HF3.out.2.2.1
             have l2 := sc_blk (P := Tryz.prog) HF3.out.2.2.1 0 zeroE.toList (C' := zeroE) rfl (Nat.le_refl _) (by decide)
             go_wp2_with (refine wpList_load_mid rfl 74 _ rfl (B + 1) 0 rfl zeroE.toList _ hL rfl rfl rfl ?_)
             refine bodyPost_ret (ret_blk rfl rfl (heap_setRow_same HF3.out.2.2.1) rfl rfl rfl) rfl ?_
             exact entPost_err HE.out (by rw [hB]; exact below_setRow HF3.out.1 (by omega))
         · have hr1 : (r == 0) = false := by simpa using hr
           have hr2 : (r != 0) = true := by simpa using hr
           have HE : Hid (entryT T c cwd (bs s) = .error r) := Hd (by
            unfold entryT
            rw [HSP.out]
            dsimp only
            rw [if_neg (by decide), if_neg (by
             rintro (h1 | h1)
             · simp at h1
             · rw [last_of] at h1
               exact HDD.out (oI h1)), init_of, hg, if_pos hr])
           have hL := range_of HF.out.2.2.1
           have l2 := sc_blk (P := Tryz.prog) HF.out.2.2.1 0 zeroE.toList (C' := zeroE) rfl (Nat.le_refl _) (by decide)
           go_wp2_with (refine wpList_load_mid rfl 74 _ rfl (B + 1) 0 rfl zeroE.toList _ hL rfl rfl rfl ?_)
           refine bodyPost_ret (ret_blk rfl rfl (heap_setRow_same HF.out.2.2.1) rfl rfl rfl) rfl ?_
           exact entPost_err HE.out (by rw [hB]; exact below_setRow HF.out.1 (by omega))
 · have he1 : (err != 0) = true := by simpa using he
   have hs1 : w.heap.size + 1 < w1.heap.size := hlt
   have hs2 : w.heap.size < w1.heap.size := by omega
   have hR : (w1.alloc (.cells #[.bool abs, .slice a l.length cap, .bool dir] 70)).heap[w.heap.size + 1]? = some (.cells zeroE 74 (0, 0)) := (aP w1 _ (by omega)).trans b1
   have hL := range_of hR
   have l2 := sc_blk (P := Tryz.prog) hR 0 zeroE.toList (C' := zeroE) rfl (Nat.le_refl _) (by decide)
   have HRR := Hd hR
   have HE := Hd he
   clear hown hb hsp b0 b1 hbb hrow hlen hlt hR he
   go_wp2_with (refine wpList_load_mid rfl 74 _ rfl (w.heap.size + 1) 0 rfl zeroE.toList _ hL rfl rfl rfl ?_)
   refine bodyPost_ret (ret_blk rfl rfl (heap_setRow_same HRR.out) rfl rfl rfl) rfl ?_
   refine entPost_err ?_ (below_setRow (bZ HBB.out _) (by omega))
   unfold entryT
   rw [HSP.out]
   dsimp only
   rw [if_pos HE.out]
def cred (c : Cr) : Value := .agg #[.int .i64 c.real, .int .i64 c.eff, .int .i64 c.saved, .int .i64 c.group, .int .i64 c.eg]
theorem wfind_ints {w : World} {t : Nat} {S : Tab} {T : IT.Tr} (h : Tre w t S T) (cwd : Int) (c : Cr) (s : ByteArray) {k : Nat} {r : Int} (hg : findT T c cwd (bs s) = (k, r)) :
  ∃ d0 d1 d2 d3 d4 d5 d6 d7 : Int, (r = 0 → ∃ m, T k = some m ∧ infC T k m = #[.int .i64 d0, .int .i64 d1, .int .i64 d2, .int .i64 d3, .int .i64 d4, .int .i64 d5, .int .i64 d6, .int .i64 d7]) ∧ (r ≠ 0 → d0 = 0) ∧ ∀ W', Below w.heap.size w W' → Calls Tryz.prog 38 #[ask t cwd c, .string s] W' fun e w' => e = .returned (.tuple #[.agg #[.int .i64 d0, .int .i64 d1, .int .i64 d2, .int .i64 d3, .int .i64 d4, .int .i64 d5, .int .i64 d6, .int .i64 d7], .int .i64 r]) ∧ Below W'.heap.size W' w' := by
 have HD : ∀ W', Below w.heap.size w W' → Calls Tryz.prog 38 #[ask t cwd c, .string s] W' (FindPost T c cwd s W') := fun W' hb => wfind_any (h.mv ((Mv.refl h.rep).below hb)) cwd c s
 by_cases hr : r = 0
 · subst hr
   have hgo := find_there (c := c) (cwd := cwd) (s := bs s) h.snd
   rw [hg] at hgo
   obtain ⟨m, hm⟩ := hgo rfl
   refine ⟨k, m.kind, m.mode, m.owner, m.group, (IT.lnk T k : Nat), (m.data.length + m.names.length : Nat), m.tty, fun _ => ⟨m, hm, rfl⟩, fun hh => absurd rfl hh, fun W' hb => (HD W' hb).mono ?_⟩
   rintro e w' ⟨v, rfl, hv, hb2⟩
   rw [hg] at hv ⊢
   refine ⟨?_, hb2⟩
   rw [hv, if_pos rfl, ← stat_eq hm]
   rfl
 · refine ⟨0, 0, 0, 0, 0, 0, 0, 0, fun h0 => absurd h0 hr, fun _ => rfl, fun W' hb => (HD W' hb).mono ?_⟩
   rintro e w' ⟨v, rfl, hv, hb2⟩
   rw [hg] at hv ⊢
   refine ⟨?_, hb2⟩
   rw [hv, if_neg hr]
   rfl
theorem wentry_bad {w : World} {t : Nat} {S : Tab} {T : IT.Tr} (h : Tre w t S T) (cwd : Int) (c : Cr) (s : ByteArray) {r : Int} (hg : entryT T c cwd (bs s) = .error r) (W' : World) (hb : Below w.heap.size w W') :
  Calls Tryz.prog 33 #[ask t cwd c, .string s] W' fun e w' => e = .returned (.tuple #[.agg zeroE, .int .i64 r]) ∧ Below W'.heap.size W' w' :=
 (wentry_any (h.mv ((Mv.refl h.rep).below hb)) cwd c s).mono (by
   rintro e w' ⟨hb2, hp⟩
   rw [hg] at hp
   exact ⟨hp, hb2⟩)
theorem wentry_good {w : World} {t : Nat} {S : Tab} {T : IT.Tr} (h : Tre w t S T) (cwd : Int) (c : Cr) (s : ByteArray) {x : Ent} (hg : entryT T c cwd (bs s) = .ok x) (W' : World) (hb : Below w.heap.size w W') :
  Calls Tryz.prog 33 #[ask t cwd c, .string s] W' fun e w' => (∃ m tg, T x.dir = some m ∧ (match x.tg with
    | none => tg = none
    | some k => ∃ q, T k = some q ∧ tg = some (k, q)) ∧ e = .returned (.tuple #[.agg (entC T x.dir m (tx x.name) x.must tg), .int .i64 0])) ∧ Below W'.heap.size W' w' :=
 (wentry_any (h.mv ((Mv.refl h.rep).below hb)) cwd c s).mono (by
   rintro e w' ⟨hb2, hp⟩
   rw [hg] at hp
   exact ⟨hp, hb2⟩)
theorem walkFind_any {w : World} {t : Nat} {S : Tab} {T : IT.Tr} (h : Tre w t S T) (cwd : Int) (c : Cr) (s : ByteArray) {k : Nat} {r : Int} (hg : findT T c cwd (bs s) = (k, r)) :
  Calls Tryz.prog 20 #[.pointer (some ⟨t, 0, none⟩), .int .i64 cwd, cred c, .string s] w fun e w' => e = .returned (.tuple #[.int .i64 (if r = 0 then k else 0 : Nat), .int .i64 r]) ∧ Below w.heap.size w w' := by
 obtain ⟨d0, d1, d2, d3, d4, d5, d6, d7, h0, h1, HF⟩ := wfind_ints h cwd c s hg
 have hd : d0 = ((if r = 0 then k else 0 : Nat) : Int) := by
  by_cases hr : r = 0
  · obtain ⟨m, _, hm⟩ := h0 hr
    rw [if_pos hr]
    exact ((infC_inj hm).1).symm
  · rw [if_neg hr]
    exact h1 hr
 rw [← hd]
 clear h0 h1 hd
 have HC := Hd HF
 clear HF h
 unfold cred
 go_enter Tryz.func20, Tryz.ntmps20
 go_wp2_with fail
 refine (HC.out _ ((Below.refl _ _).alloc (Nat.le_refl _) _)).mono ?_
 rintro e w2 ⟨rfl, hb⟩
 have HB : Hid (Below w.heap.size w w2) := Hd (((Below.refl _ _).alloc (Nat.le_refl _) _).trans (hb.mono (by rw [aZ]; omega)))
 clear hb HC
 go_wp2
 go_ret2
 exact ⟨rfl, bZ HB.out _⟩
theorem Stp.pre {w w1 w' : World} {t : Nat} {S S1 : Tab} {R : IT.Tr → Prop} (g : Mv w t S w1 S1) (s : Stp w1 t S1 R w') : Stp w t S R w' := by
 obtain ⟨S', T', h1, h2, h3⟩ := s
 exact ⟨S', T', g.trans h1, h2, h3⟩
theorem Stp.imp {w w' : World} {t : Nat} {S : Tab} {R R' : IT.Tr → Prop} (s : Stp w t S R w') (f : ∀ T', R T' → R' T') : Stp w t S R' w' := by
 obtain ⟨S', T', h1, h2, h3⟩ := s
 exact ⟨S', T', h1, h2, f T' h3⟩
theorem Stp.below {w w1 w' : World} {t : Nat} {S : Tab} {R : IT.Tr → Prop} (s : Stp w t S R w1) (hb : Below w1.heap.size w1 w') : Stp w t S R w' := by
 obtain ⟨S', T', h1, h2, h3⟩ := s
 exact ⟨S', T', h1.below hb, h2, h3⟩
def clr (m : Int) : Int := bits .andNot .i64 m 2048
def isPlainer (T : IT.Tr) (k : Nat) (T' : IT.Tr) : Prop := match T k with
 | none => T' = T
 | some m => ∃ r, IT.isSet rt T k (clr m.mode) m.owner m.group r T'
theorem isPlainer.sound {T T' : IT.Tr} {k : Nat} (h : isPlainer T k T') (hs : IT.Sound okN T) : IT.Sound okN T' := by
 unfold isPlainer at h
 split at h
 · exact h ▸ hs
 · obtain ⟨r, h⟩ := h
   exact h.sound hs
theorem plainer_any {w : World} {t : Nat} {S : Tab} {T : IT.Tr} (h : Tre w t S T) (ki : Int) :
  Calls Tryz.prog 42 #[.pointer (some ⟨t, 0, none⟩), .int .i64 ki] w fun e w' => e = .returned (.tuple #[]) ∧ Stp w t S (fun T' => isPlainer T ki.toNat T') w' := by
 have H := Hd h
 cases hk : T ki.toNat with
 | none =>
   have HC : Hid (Calls Tryz.prog 17 #[.pointer (some ⟨t, 0, none⟩), .int .i64 ki] w fun e w' => e = .returned (.tuple #[noInfo, .bool false]) ∧ Below w.heap.size w w') := Hd ((stat_any h ki).mono (by
    rintro e w' ⟨rfl, hb⟩
    refine ⟨?_, hb⟩
    rw [hk]; unfold statV; rw [hk]; rfl))
   have HK := Hd hk
   clear h hk
   unfold noInfo at HC
   go_enter Tryz.func42, Tryz.ntmps42
   go_wp2_with fail
   refine HC.out.mono ?_
   rintro e w2 ⟨rfl, hb⟩
   have HB := Hd hb
   clear hb
   go_wp2
   refine bodyPost_end (results_none rfl _ _ _) rfl ⟨rfl, Stp.keepB H.out (bZ HB.out _) ?_⟩
   unfold isPlainer
   rw [HK.out]
 | some m =>
   obtain ⟨d0, d1, d2, d3, d4, d5, d6, d7, hd⟩ : ∃ d0 d1 d2 d3 d4 d5 d6 d7 : Int, infC T ki.toNat m = #[.int .i64 d0, .int .i64 d1, .int .i64 d2, .int .i64 d3, .int .i64 d4, .int .i64 d5, .int .i64 d6, .int .i64 d7] := ⟨_, _, _, _, _, _, _, _, rfl⟩
   have HC : Hid (Calls Tryz.prog 17 #[.pointer (some ⟨t, 0, none⟩), .int .i64 ki] w fun e w' => e = .returned (.tuple #[.agg #[.int .i64 d0, .int .i64 d1, .int .i64 d2, .int .i64 d3, .int .i64 d4, .int .i64 d5, .int .i64 d6, .int .i64 d7], .bool true]) ∧ Below w.heap.size w w') := Hd ((stat_any h ki).mono (by
    rintro e w' ⟨rfl, hb⟩
    refine ⟨?_, hb⟩
    rw [hk, ← stat_eq hk, hd]; rfl))
   have HK := Hd hk
   have HI := Hd (infC_inj hd)
   clear h hk hd
   go_enter Tryz.func42, Tryz.ntmps42
   go_wp2_with fail
   refine HC.out.mono ?_
   rintro e w2 ⟨rfl, hb⟩
   have HB := Hd (bZ hb (.cells #[.int .i64 d0, .int .i64 d1, .int .i64 d2, .int .i64 d3, .int .i64 d4, .int .i64 d5, .int .i64 d6, .int .i64 d7] 44))
   clear hb HC
   go_wp2_with fail
   refine (set_any (H.out.mv ((Mv.refl H.out.rep).below HB.out)) _ _ _ _).mono ?_
   rintro e w3 ⟨r, rfl, hs⟩
   have HS := Hd (Stp.pre ((Mv.refl H.out.rep).below HB.out) hs)
   clear hs
   go_wp2
   refine bodyPost_end (results_none rfl _ _ _) rfl ⟨rfl, HS.out.imp fun T' hT' => ?_⟩
   unfold isPlainer
   rw [HK.out]
   obtain ⟨e0, e1, e2, e3, e4, _, _, _⟩ := HI.out
   refine ⟨r, ?_⟩
   rw [e2, e3, e4]
   exact hT'
theorem HB.mono {T : IT.Tr} {B B' : Nat} (h : HB T B) (hB : B ≤ B') : HB T B' := fun k m hk => Nat.le_trans (h k m hk) hB
theorem HB.upd {T : IT.Tr} {B : Nat} (h : HB T B) (k : Nat) {o : Option IT.Nd} (ho : ∀ m, o = some m → m.holds ≤ B) : HB (IT.upd T k o) B := fun j m hj => by
 by_cases e : j = k
 · subst e; rw [IT.uY] at hj; exact ho m hj
 · rw [IT.uX T o e] at hj; exact h j m hj
theorem alone_holds (j : Nat) (m : IT.Nd) : (IT.alone j m).holds = m.holds := by unfold IT.alone; split <;> rfl
theorem HB.rem {T : IT.Tr} {B : Nat} (h : HB T B) (i : Nat) : HB (IT.rem T i) B := fun j m hj => by
 unfold IT.rem at hj
 split at hj
 · cases hj
 · split at hj
   · exact h j m hj
   · obtain ⟨m0, h0, rfl⟩ := Option.map_eq_some_iff.1 hj
     rw [alone_holds]
     exact h j m0 h0
theorem HB.nf {T A : IT.Tr} (h : IT.NF T A) : ∀ {B : Nat}, HB T B → HB A B := by
 induction h with
 | done _ => exact fun hb => hb
 | step _ _ ih => exact fun hb => ih (hb.rem _)
theorem HB.make {T T' : IT.Tr} {B i : Nat} {kind m o g tty e : Int} (h : HB T B) (hB : 1 ≤ B) (hm : IT.isMake rt T kind m o g tty i e T') : HB T' B := by
 unfold IT.isMake at hm
 split at hm
 · exact hm.2.2 ▸ h
 · split at hm
   · exact hm.2.2 ▸ h
   · split at hm
     · exact hm.2.2 ▸ h
     · obtain ⟨_, _, _, _, _, rfl⟩ := hm
       exact h.upd _ (fun m hm => by cases hm; exact hB)
theorem HB.ent {T : IT.Tr} {B d x : Nat} {nm : IT.Bytes} {n m : IT.Nd} (h : HB T B) (hd : T d = some n) (hx : T x = some m) : HB (IT.entT T d x nm n m) B := by
 unfold IT.entT
 refine (h.upd _ (fun q hq => ?_)).upd _ (fun q hq => ?_)
 · cases hq; rw [IT.under_holds]; exact h x m hx
 · cases hq; exact h d n hd
theorem HB.enter {T T' : IT.Tr} {B d x : Nat} {nm : IT.Bytes} {e : Int} (h : HB T B) (hm : IT.isEnter okN T d nm x e T') : HB T' B := by
 unfold IT.isEnter at hm
 cases hd : T d with
 | none => rw [hd] at hm; exact hm.2 ▸ h
 | some n =>
   cases hx : T x with
   | none => rw [hd, hx] at hm; exact hm.2 ▸ h
   | some m =>
     rw [hd, hx] at hm
     dsimp only at hm
     repeat' split at hm
     all_goals first | exact hm.2 ▸ h | (rw [hm.2]; exact h.ent hd hx)
theorem HB.hold {T T' : IT.Tr} {B k : Nat} {r : Bool} (h : HB T B) (hm : IT.isHold T k r T') : HB T' (B + 1) := by
 unfold IT.isHold at hm
 cases hk : T k with
 | none => rw [hk] at hm; exact (hm.2 ▸ h).mono (Nat.le_succ B)
 | some n =>
   rw [hk] at hm
   dsimp only at hm
   rw [hm.2]
   exact (h.mono (Nat.le_succ B)).upd _ (fun q hq => by cases hq; exact Nat.succ_le_succ (h k n hk))
theorem HB.drop {T T' : IT.Tr} {B k : Nat} {r : Bool} (h : HB T B) (hm : IT.isDrop T k r T') : HB T' B := by
 unfold IT.isDrop at hm
 cases hk : T k with
 | none => rw [hk] at hm; exact hm.2 ▸ h
 | some n =>
   rw [hk] at hm
   dsimp only at hm
   split at hm
   · exact hm.2 ▸ h
   · exact HB.nf hm.2 (h.upd _ (fun q hq => by cases hq; exact Nat.le_trans (Nat.sub_le _ _) (h k n hk)))
theorem HB.set {T T' : IT.Tr} {B k : Nat} {m o g e : Int} (h : HB T B) (hm : IT.isSet rt T k m o g e T') : HB T' B := by
 unfold IT.isSet at hm
 cases hk : T k with
 | none => rw [hk] at hm; exact hm.2 ▸ h
 | some n =>
   rw [hk] at hm
   dsimp only at hm
   split at hm
   · exact hm.2 ▸ h
   · rw [hm.2]; exact h.upd _ (fun q hq => by cases hq; exact h k n hk)
theorem HB.put {T T' : IT.Tr} {B k : Nat} {a e : Int} {s : IT.Bytes} (h : HB T B) (hm : IT.isPut T k a s e T') : HB T' B := by
 unfold IT.isPut at hm
 cases hk : T k with
 | none => rw [hk] at hm; exact hm.2 ▸ h
 | some n =>
   rw [hk] at hm
   dsimp only at hm
   repeat' split at hm
   all_goals first | exact hm.2 ▸ h | (rw [hm.2]; exact h.upd _ (fun q hq => by cases hq; exact h k n hk))
theorem HB.cut {T T' : IT.Tr} {B k : Nat} {e : Int} (h : HB T B) (hm : IT.isCut T k e T') : HB T' B := by
 unfold IT.isCut at hm
 cases hk : T k with
 | none => rw [hk] at hm; exact hm.2 ▸ h
 | some n =>
   rw [hk] at hm
   dsimp only at hm
   repeat' split at hm
   all_goals first | exact hm.2 ▸ h | (rw [hm.2]; exact h.upd _ (fun q hq => by cases hq; exact h k n hk))
theorem HB.del' {T : IT.Tr} {B d x : Nat} {nm : IT.Bytes} {n m : IT.Nd} (h : HB T B) (hd : T d = some n) (hm : m.holds ≤ B) : HB (IT.delT T d x nm n m) B := by
 unfold IT.delT
 refine (h.upd _ (fun q hq => ?_)).upd _ (fun q hq => ?_)
 · cases hq; rw [alone_holds]; exact hm
 · cases hq; exact h d n hd
theorem HB.del {T : IT.Tr} {B d x : Nat} {nm : IT.Bytes} {n m : IT.Nd} (h : HB T B) (hd : T d = some n) (hx : T x = some m) : HB (IT.delT T d x nm n m) B := by
 unfold IT.delT
 refine (h.upd _ (fun q hq => ?_)).upd _ (fun q hq => ?_)
 · cases hq; rw [alone_holds]; exact h x m hx
 · cases hq; exact h d n hd
theorem HB.remove {T T' : IT.Tr} {B d : Nat} {nm : IT.Bytes} {e : Int} (h : HB T B) (hm : IT.isRemove T d nm e T') : HB T' B := by
 unfold IT.isRemove at hm
 cases hd : T d with
 | none => rw [hd] at hm; exact hm.2 ▸ h
 | some n =>
   rw [hd] at hm
   dsimp only at hm
   split at hm
   · exact hm.2 ▸ h
   · split at hm
     · exact hm.2 ▸ h
     · obtain ⟨m, hx, hm⟩ := hm
       split at hm
       · exact hm.2 ▸ h
       · exact HB.nf hm.2 (h.del hd hx)
theorem HB.move {T T' : IT.Tr} {B d b : Nat} {nm ar : IT.Bytes} {e : Int} (h : HB T B) (hm : IT.isMove okN T d nm b ar e T') : HB T' B := by
 unfold IT.isMove at hm
 cases hd : T d with
 | none => rw [hd] at hm; exact hm.2 ▸ h
 | some n =>
   cases hb : T b with
   | none => rw [hd, hb] at hm; exact hm.2 ▸ h
   | some q =>
     rw [hd, hb] at hm
     dsimp only at hm
     split at hm
     · exact hm.2 ▸ h
     · split at hm
       · exact hm.2 ▸ h
       · obtain ⟨m, hx, hm⟩ := hm
         split at hm
         · exact hm.2 ▸ h
         · split at hm
           · exact hm.2 ▸ h
           · split at hm
             · split at hm
               · exact hm.2 ▸ h
               · obtain ⟨_, q1, m1, h1, h2, rfl⟩ := hm
                 exact (h.del hd hx).ent h1 h2
             · split at hm
               · exact hm.2 ▸ h
               · obtain ⟨mw, hw, hm⟩ := hm
                 split at hm
                 · exact hm.2 ▸ h
                 · split at hm
                   · exact hm.2 ▸ h
                   · obtain ⟨_, q1, q2, m2, h1, h2, h3, hnf⟩ := hm
                     refine HB.nf hnf (HB.ent ?_ h2 h3)
                     exact HB.del' (h.del hd hx) h1 (h _ mw hw)
theorem HB.plainer {T T' : IT.Tr} {B k : Nat} (h : HB T B) (hm : isPlainer T k T') : HB T' B := by
 unfold isPlainer at hm
 split at hm
 · exact hm ▸ h
 · obtain ⟨r, hm⟩ := hm
   exact h.set hm
theorem not_foot {w : World} {t : Nat} {S : Tab} (h : Rep w t S) {b : Nat} {C : Array Value} {T : TypeId} {f : Nat × Nat} (hh : w.heap[b]? = some (.cells C T f)) (h1 : T ≠ 105) (h2 : T ≠ 83) : ¬ foot S t b := by
 rintro (rfl | ⟨k, c, n, hk, rfl | hm⟩)
 · have e := hh.symm.trans h.tree
   simp only [Option.some.injEq, Obj.cells.injEq] at e
   exact h1 e.2.1
 · have e := hh.symm.trans (h.node k _ n hk)
   simp only [Option.some.injEq, Obj.cells.injEq] at e
   exact h2 e.2.1
 · obtain ⟨es, clock, e, _⟩ := h.map k c n _ hk hm
   rw [hh] at e; cases e
def Lay (w w' : World) : Prop := w.heap.size ≤ w'.heap.size ∧ ∀ (b : Nat) (C : Array Value) (T : TypeId) (f : Nat × Nat), w.heap[b]? = some (.cells C T f) → T ≠ 105 → T ≠ 83 → T ≠ 112 → w'.heap[b]? = some (.cells C T f)
theorem Lay.refl (w : World) : Lay w w := ⟨Nat.le_refl _, fun _ _ _ _ h _ _ _ => h⟩
theorem Lay.trans {a b c : World} (h : Lay a b) (g : Lay b c) : Lay a c := ⟨Nat.le_trans h.1 g.1, fun k C T f e h1 h2 h3 => g.2 k C T f (h.2 k C T f e h1 h2 h3) h1 h2 h3⟩
theorem Lay.below {w w' : World} (h : Below w.heap.size w w') : Lay w w' := ⟨h.size, fun b C T f e _ _ _ => (h.block b (lH e)).trans e⟩
theorem Tro.lay {n0 : Nat} {w0 w w' : World} {t : Nat} {S : Tab} {T : IT.Tr} (h : Tro n0 w0 w t S T) {R : IT.Tr → Prop} (g : Stp w t S R w') (hR : ∀ T', R T' → IT.Sound okN T') : ∃ S' T', Tro n0 w0 w' t S' T' ∧ R T' ∧ Lay w w' := by
 obtain ⟨S', T', g1, g2, g3⟩ := h.stp g hR
 exact ⟨S', T', g1, g2, g3.size, fun b C T f e h1 h2 _ => (g3.block b (lH e) (not_foot h.own.rep e h1 h2)).trans e⟩
end Go.Proofs.YtafonmnfeibaiaaGreat
