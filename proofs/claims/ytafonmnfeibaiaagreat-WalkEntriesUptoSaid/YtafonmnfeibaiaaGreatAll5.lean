/- Part 6 of the proof: contracts of functions that the statement reaches, and plain lemmas. -/
import Derived.Test.YtafonmnfeibaiaaGreatAll4
import Derived.Test.YtafonmnfeibaiaaGreatAll3
import Derived.Deep.RegionHeld3
import Derived.Deep.QuietTactic
import Derived.BigQuiet
import Derived.Test.YtafonmnfeibaiaaGreatAll1
import Derived.Test.YtafonmnfeibaiaaGreatAll2
import Derived.RegionTactic
import Derived.BigRegion
import Derived.Test.YtafonmnfeibaiaaGreatRows
import Derived.WalkKit
import Derived.ProofKit
import Derived.OpenShut
import Derived.ChangeOld
import Derived.SliceStrings
import Derived.ChangeSlices
import Derived.Carry
import Derived.Deep.Slices
import Derived.ChangeArms
import Derived.DataReads
import Derived.Test.YtafonmnfeibaiaaGreatAll0
import Derived.Sort.KeysCollected
import Derived.Laws.AppendOwn
set_option linter.all false
set_option maxRecDepth 100000
set_option maxHeartbeats 100000000
namespace Go.Proofs.YtafonmnfeibaiaaGreat.RF
open Go.RowKit
theorem dfind_any {w : World} {t B : Nat} {G : Gt} {T : IT.Tr} (h : Trf w t B G T) (hm : MR T) (cwd : Int) (c : Cr) (s : ByteArray) (hs : s.size ≤ 1048576) :
  Calls Tryz.prog 57 #[.pointer (some ⟨t, 0, none⟩), .int .i64 cwd, cred c, .string s] w fun e w' => e = .returned (.tuple #[.int .i64 ((findT T c cwd (bs s)).1 : Nat), .int .i64 (findT T c cwd (bs s)).2]) ∧ Below w.heap.size w w' := by
 have HV := Hd (DV.start h c)
 have HM := Hd hm
 have HF : Hid (∀ abs dir l err, Pp.splitS (bs s) = (abs, dir, l, err) → findT T c cwd (bs s) = if err ≠ 0 then (0, err) else if (goT T c cwd abs l).2 ≠ 0 then (0, (goT T c cwd abs l).2) else if dir = true ∧ kindT T (goT T c cwd abs l).1 ≠ 1 then (0, 6) else ((goT T c cwd abs l).1, 0)) := Hd (fun abs dir l err he => by unfold findT; rw [he])
 have HS := Hd h.snd
 clear h hm
 generalize findT T c cwd (bs s) = D at *
 unfold cred
 go_enter Tryz.func57, Tryz.ntmps57
 go_wp2_with fail
 refine (Pp.rsplit_any s _ hs).mono ?_
 rintro e w1 ⟨abs, dir, v, l, err, rfl, hown, hb1, hsp⟩
 obtain ⟨a, cap, rfl, hrow, hlen, _⟩ := row_of_owns hown
 have hFD := HF.out _ _ _ _ (split_of hsp)
 have HV1 := Hd (HV.out.below hb1)
 have HROW := Hd hrow
 clear hown hb1 hsp hrow HF HV
 by_cases he : err = 0
 · subst he
   rw [if_neg (fun hh => hh rfl)] at hFD
   have HFD := Hd hFD
   clear hFD
   have e0 : w1.cell? ⟨w.heap.size, 0, none⟩ = some (.int .i64 c.real) := cO HV1.out.cr 0
   have e1 : w1.cell? ⟨w.heap.size, 1, none⟩ = some (.int .i64 c.eff) := cO HV1.out.cr 1
   have e2 : w1.cell? ⟨w.heap.size, 2, none⟩ = some (.int .i64 c.saved) := cO HV1.out.cr 2
   have e3 : w1.cell? ⟨w.heap.size, 3, none⟩ = some (.int .i64 c.group) := cO HV1.out.cr 3
   have e4 : w1.cell? ⟨w.heap.size, 4, none⟩ = some (.int .i64 c.eg) := cO HV1.out.cr 4
   have elt := lH HV1.out.cr
   go_wp2_with fail
   have hVa := HV1.out.alloc (.cells #[.bool abs, .slice a l.length cap, .bool dir] 138)
   have hRa := HROW.out.below ((Below.refl _ _).alloc (Nat.le_refl _) (.cells #[.bool abs, .slice a l.length cap, .bool dir] 138))
   have hPa := aQ w1 (.cells #[.bool abs, .slice a l.length cap, .bool dir] 138)
   refine (ddown_any hVa.trf HM.out cwd c abs a cap l hRa hlen).mono ?_
   rintro e w2 ⟨rfl, hb2⟩
   have HV2 := Hd (hVa.below hb2)
   have hP2 := (hb2.block _ (lH hPa)).trans hPa
   have p2 : w2.cell? ⟨w1.heap.size, 2, none⟩ = some (.bool dir) := cO hP2 2
   clear hVa hRa hPa hb2 hP2 e0 e1 e2 e3 e4 elt
   obtain ⟨⟨k, r⟩, hgo⟩ : ∃ g, goT T c cwd abs (l.map bs) = g := ⟨_, rfl⟩
   rw [hgo] at HFD ⊢
   have HGO := Hd hgo
   clear hgo
   by_cases hr : r = 0
   · subst hr
     obtain ⟨m, hm⟩ := go_there HS.out (T := T) (c := c) (cwd := cwd) (abs := abs) (l := l.map bs) (by rw [HGO.out])
     rw [HGO.out] at hm
     have hfd := HFD.out
     rw [if_neg (fun hh => hh rfl), show kindT T (k, (0 : Int)).1 = m.kind by unfold kindT; rw [hm]] at hfd
     have HD0 : Hid (Calls Tryz.prog 91 #[.pointer (some ⟨t, 0, none⟩), .int .i64 (k : Int)] w2 fun e w' => e = .returned (.bool (m.kind == 1)) ∧ w2 = w') := Hd (by have := rf_dir HV2.out.trf (k : Int); rw [Int.toNat_natCast, hm] at this; exact this)
     by_cases hk : m.kind = 1
     · rw [show (m.kind == 1) = true by simpa using hk] at HD0
       rw [if_neg (fun hh => hh.2 hk)] at hfd
       subst hfd
       clear hm hk HFD
       go_wp2_with fail
       refine HD0.out.mono ?_
       rintro e w5 ⟨rfl, rfl⟩
       cases dir
       all_goals go_wp2
       all_goals exact bodyPost_ret (v := .tuple #[.int .i64 (k : Int), .int .i64 0]) (by simp [results, Tryz.results57, go_sem]) rfl ⟨rfl, HV2.out.bel⟩
     · rw [show (m.kind == 1) = false by simpa using hk] at HD0
       cases dir with
       | false =>
         rw [if_neg (fun hh => by cases hh.1)] at hfd
         subst hfd
         clear hm hk HFD
         go_wp2_with fail
         refine HD0.out.mono ?_
         rintro e w5 ⟨rfl, rfl⟩
         go_wp2
         exact bodyPost_ret (v := .tuple #[.int .i64 (k : Int), .int .i64 0]) (by simp [results, Tryz.results57, go_sem]) rfl ⟨rfl, HV2.out.bel⟩
       | true =>
         rw [if_pos ⟨rfl, hk⟩] at hfd
         subst hfd
         clear hm hk HFD
         go_wp2_with fail
         refine HD0.out.mono ?_
         rintro e w5 ⟨rfl, rfl⟩
         go_wp2
         exact bodyPost_ret (v := .tuple #[.int .i64 0, .int .i64 6]) (by simp [results, Tryz.results57, go_sem]) rfl ⟨rfl, HV2.out.bel⟩
   · have hfd := HFD.out
     rw [if_pos hr] at hfd
     subst hfd
     have hr1 : (r != 0) = true := by simpa using hr
     clear hr HFD
     go_wp2
     exact bodyPost_ret (v := .tuple #[.int .i64 0, .int .i64 r]) (by simp [results, Tryz.results57, go_sem]) rfl ⟨rfl, HV2.out.bel⟩
 · have he1 : (err != 0) = true := by simpa using he
   rw [if_pos he] at hFD
   subst hFD
   clear he
   go_wp2
   exact bodyPost_ret (v := .tuple #[.int .i64 0, .int .i64 err]) (by simp [results, Tryz.results57, go_sem]) rfl ⟨rfl, bZ HV1.out.bel _⟩
def parV (o : Except Int Ent) : Value := match o with
 | .error e => .tuple #[.int .i64 0, .string ⟨#[]⟩, .bool false, .int .i64 e]
 | .ok x => .tuple #[.int .i64 (x.dir : Nat), .string (tx x.name), .bool x.must, .int .i64 0]
theorem entry_init {T : IT.Tr} {c : Cr} {cwd : Int} {s : ByteArray} {abs dir : Bool} {l : List ByteArray} {x0 : ByteArray} (hsp : Pp.splitS (bs s) = (abs, dir, (l ++ [x0]).map bs, 0)) (hd : x0 ≠ ⟨#[46, 46]⟩) : entryT T c cwd (bs s) = if (goT T c cwd abs (l.map bs)).2 ≠ 0 then .error (goT T c cwd abs (l.map bs)).2 else match T (goT T c cwd abs (l.map bs)).1 with
  | none => .error 3
  | some m => if entersE m c ≠ 0 then .error (entersE m c) else .ok ⟨(goT T c cwd abs (l.map bs)).1, bs x0, dir, lookT T (goT T c cwd abs (l.map bs)).1 (bs x0)⟩ := by
 unfold entryT
 rw [hsp]
 dsimp only
 rw [if_neg (by decide), if_neg (by
  rintro (e | e)
  · simp at e
  · rw [last_of] at e
    refine hd ?_
    have := oI e
    rw [← tx_bs x0, this]
    rfl), last_of, init_of]
 rfl
theorem dparent_any {w : World} {t B : Nat} {G : Gt} {T : IT.Tr} (h : Trf w t B G T) (hm : MR T) (cwd : Int) (c : Cr) (s : ByteArray) (hs : s.size ≤ 1048576) :
  Calls Tryz.prog 58 #[.pointer (some ⟨t, 0, none⟩), .int .i64 cwd, cred c, .string s] w fun e w' => e = .returned (parV (entryT T c cwd (bs s))) ∧ Below w.heap.size w w' := by
 have HV := Hd (DV.start h c)
 have HM := Hd hm
 have HS := Hd h.snd
 obtain ⟨D, hD⟩ : ∃ D, entryT T c cwd (bs s) = D := ⟨_, rfl⟩
 rw [hD]
 have HDD := Hd hD
 clear h hm hD
 unfold cred
 go_enter Tryz.func58, Tryz.ntmps58
 go_wp2_with fail
 refine (Pp.rsplit_any s _ hs).mono ?_
 rintro e w1 ⟨abs, dir, v, l, err, rfl, hown, hb1, hsp⟩
 obtain ⟨a, cap, rfl, hrow, hlc, hcm⟩ := row_of_owns2 hown
 have HSP := Hd (split_of hsp)
 have HV1 := Hd (HV.out.below hb1)
 have HROW := Hd hrow
 clear hown hb1 hsp hrow HV
 by_cases he : err = 0
 · subst he
   have elt := lH HV1.out.cr
   rcases snoc l with rfl | ⟨l, x0, rfl⟩
   · have HE : Hid (D = .error 1) := Hd (by
      rw [← HDD.out]
      unfold entryT
      rw [HSP.out]
      dsimp only
      rw [if_neg (by decide), if_pos (.inl rfl)])
     obtain rfl := HE.out
     rw [List.length_nil]
     go_wp2
     exact bodyPost_ret (v := .tuple #[.int .i64 0, .string ⟨#[]⟩, .bool false, .int .i64 1]) (by simp [results, Tryz.results58, go_sem]) rfl ⟨rfl, bZ HV1.out.bel _⟩
   · have hN : (l ++ [x0]).length = l.length + 1 := by simp
     rw [hN] at hlc ⊢
     obtain ⟨bn, on, rfl, hbn, hcn⟩ := HROW.out.last
     have hRI := Hd HROW.out.init
     obtain ⟨ll, hll⟩ : ∃ ll, l.length = ll := ⟨_, rfl⟩
     rw [hll] at hlc hcn ⊢
     have HLL := Hd hll
     have hw1 : wrap64 (ll : Int) = (ll : Int) := by unfold maxLen at hcm; unfold wrap64; omega
     have hw2 : IntKind.i64.wrap (ll : Int) = (ll : Int) := by rw [IntKind.wrap_i64]; unfold maxLen at hcm; omega
     have hw3 : IntKind.i64.wrap ((ll : Int) + 1 - 1) = (ll : Int) := by rw [IntKind.wrap_i64]; unfold maxLen at hcm; omega
     have hi2 : ll < ll + 1 := by omega
     have hi3 : (ll : Int) < (ll : Int) + 1 := by omega
     have hz : ((ll : Int) + 1 == 0) = false := by simpa using (show ¬ (ll : Int) + 1 = 0 by omega)
     have hcap : (ll : Int) ≤ cap := by omega
     have hll0 : (0 : Int) ≤ ll := by omega
     have hi1 : ((ll : Nat) : Int) < 0 ↔ False := ⟨fun hh => absurd hh (by omega), False.elim⟩
     have hi5 : ((ll : Nat) : Int) ≤ (ll + 1 : Nat) := by omega
     have hi6 : ll ≤ cap := by omega
     clear hll hN
     by_cases hd : x0 = ⟨#[46, 46]⟩
     · subst hd
       have HE : Hid (D = .error 1) := Hd (by
        rw [← HDD.out]
        unfold entryT
        rw [HSP.out]
        dsimp only
        rw [if_neg (by decide), if_pos (.inr last_of)])
       obtain rfl := HE.out
       go_wp2
       exact bodyPost_ret (v := .tuple #[.int .i64 0, .string ⟨#[]⟩, .bool false, .int .i64 1]) (by simp [results, Tryz.results58, go_sem]) rfl ⟨rfl, bZ HV1.out.bel _⟩
     · have hd1 : (x0.toList == [46, 46]) = false := by rw [ByteArray.toList_eq]; exact beq_eq_false_iff_ne.2 (fun hh => hd (ByteArray.ext (Array.ext' hh)))
       have HE := Hd (HDD.out.symm.trans (entry_init HSP.out hd))
       clear hd
       go_upto_region 7 with fail
       have hV0 := HV1.out.alloc (.cells #[.bool abs, .slice (some ⟨bn, on, none⟩) (ll + 1) cap, .bool dir] 138)
       have hR0 := hRI.out.below ((Below.refl _ _).alloc (Nat.le_refl _) (.cells #[.bool abs, .slice (some ⟨bn, on, none⟩) (ll + 1) cap, .bool dir] 138))
       have hP0 := aQ w1 (.cells #[.bool abs, .slice (some ⟨bn, on, none⟩) (ll + 1) cap, .bool dir] 138)
       have hc0 : (w1.alloc (.cells #[.bool abs, .slice (some ⟨bn, on, none⟩) (ll + 1) cap, .bool dir] 138)).cell? ⟨bn, on + ll, none⟩ = some (.string x0) := by rw [World.cell?_alloc_lt _ _ _ hbn]; exact hcn
       have hbn0 : bn < (w1.alloc (.cells #[.bool abs, .slice (some ⟨bn, on, none⟩) (ll + 1) cap, .bool dir] 138)).heap.size := by rw [aZ]; omega
       clear HV1 HROW hRI hcn hbn
       generalize w1.alloc (.cells #[.bool abs, .slice (some ⟨bn, on, none⟩) (ll + 1) cap, .bool dir] 138) = W0 at *
       generalize w1.heap.size = P0 at *
       obtain ⟨B0, hB0⟩ : ∃ B0, w.heap.size = B0 := ⟨_, rfl⟩
       rw [hB0] at hV0 elt ⊢
       obtain ⟨⟨k, r⟩, hgo⟩ : ∃ g, goT T c cwd abs (l.map bs) = g := ⟨_, rfl⟩
       have HGO := Hd hgo
       have HDN : ∀ W', Below W0.heap.size W0 W' → Calls Tryz.prog 90 #[.pointer (some ⟨t, 0, none⟩), .int .i64 cwd, .agg #[.int .i64 c.real, .int .i64 c.eff, .int .i64 c.saved, .int .i64 c.group, .int .i64 c.eg], .bool abs, .slice (some ⟨bn, on, none⟩) ll cap] W' fun e w' => e = .returned (.tuple #[.int .i64 (k : Int), .int .i64 r]) ∧ Below W'.heap.size W' w' := fun W' hb => by
        have := ddown_any (hV0.below hb).trf HM.out cwd c abs (some ⟨bn, on, none⟩) cap l (hR0.below hb) (by rw [HLL.out]; omega)
        rw [hgo, HLL.out] at this
        exact this
       have KP : ∀ W', Below W0.heap.size W0 W' → (Below W0.heap.size W0 W' ∧ W'.cell? ⟨B0, 0, none⟩ = some (.int .i64 c.real) ∧ W'.cell? ⟨B0, 1, none⟩ = some (.int .i64 c.eff) ∧ W'.cell? ⟨B0, 2, none⟩ = some (.int .i64 c.saved) ∧ W'.cell? ⟨B0, 3, none⟩ = some (.int .i64 c.group) ∧ W'.cell? ⟨B0, 4, none⟩ = some (.int .i64 c.eg) ∧ W'.cell? ⟨P0, 0, none⟩ = some (.bool abs) ∧ W'.cell? ⟨P0, 1, none⟩ = some (.slice (some ⟨bn, on, none⟩) (ll + 1) cap)) := fun W' hb => by
        have h1 := (hV0.below hb).cr
        have h2 := (hb.block P0 (lH hP0)).trans hP0
        exact ⟨hb, cO h1 0, cO h1 1, cO h1 2, cO h1 3, cO h1 4, cO h2 0, cO h2 1⟩
       have HV0 := Hd hV0
       have HP0 := Hd hP0
       rw [hgo] at HE
       clear hV0 hP0 hR0 hgo
       go_region_held3 (fun W' => Below W0.heap.size W0 W' ∧ W'.cell? ⟨B0, 0, none⟩ = some (.int .i64 c.real) ∧ W'.cell? ⟨B0, 1, none⟩ = some (.int .i64 c.eff) ∧ W'.cell? ⟨B0, 2, none⟩ = some (.int .i64 c.saved) ∧ W'.cell? ⟨B0, 3, none⟩ = some (.int .i64 c.group) ∧ W'.cell? ⟨B0, 4, none⟩ = some (.int .i64 c.eg) ∧ W'.cell? ⟨P0, 0, none⟩ = some (.bool abs) ∧ W'.cell? ⟨P0, 1, none⟩ = some (.slice (some ⟨bn, on, none⟩) (ll + 1) cap))
        (first | (refine KP _ ?_; first
          | with_reducible exact (Below.refl _ _).drew
          | with_reducible exact Below.refl _ _
          | with_reducible exact (‹Below W0.heap.size W0 _ ∧ _›).1
          | with_reducible exact hbz))
        (first
          | (go_at_call 90; refine (HDN _ (‹Below W0.heap.size W0 _ ∧ _›).1).mono ?_; rintro e w2 ⟨rfl, hb1⟩; have hbz : Below W0.heap.size W0 w2 := (‹Below W0.heap.size W0 _ ∧ _›).1.trans (hb1.mono (‹Below W0.heap.size W0 _ ∧ _›).1.size)))
       have HV2 := Hd (HV0.out.below hbz)
       have hP2 := (hbz.block P0 (lH HP0.out)).trans HP0.out
       have hc2 : w2.cell? ⟨bn, on + ll, none⟩ = some (.string x0) := by rw [hbz.cell (p := ⟨bn, on + ll, none⟩) hbn0]; exact hc0
       have hlt2 : bn < w2.heap.size := Nat.lt_of_lt_of_le hbn0 hbz.size
       have HP2 := Hd hP2
       clear hbz hb1 HDN KP hc0 hbn0 hP2
       by_cases hr : r = 0
       · subst hr
         have hgt := go_there HS.out (T := T) (c := c) (cwd := cwd) (abs := abs) (l := l.map bs) (by rw [HGO.out])
         rw [HGO.out] at hgt
         obtain ⟨m, hm⟩ := hgt
         have hE := HE.out
         rw [if_neg (fun hh => hh rfl)] at hE
         rw [show T (k, (0 : Int)).1 = some m from hm] at hE
         dsimp only at hE
         have HD0 : Hid (Calls Tryz.prog 91 #[.pointer (some ⟨t, 0, none⟩), .int .i64 (k : Int)] w2 fun e w' => e = .returned (.bool (m.kind == 1)) ∧ w2 = w') := Hd (by have := rf_dir HV2.out.trf (k : Int); rw [Int.toNat_natCast, hm] at this; exact this)
         have HMY : Hid (Calls Tryz.prog 92 #[.pointer (some ⟨t, 0, none⟩), cred c, .int .i64 (k : Int), .int .i64 1] w2 fun e w' => e = .returned (.bool (mayN m c 1)) ∧ Below w2.heap.size w2 w') := Hd (dmay_any HV2.out.trf HM.out c hm 1)
         unfold cred at HMY
         by_cases hk : m.kind = 1
         · rw [show (m.kind == 1) = true by simpa using hk] at HD0
           have e0 : w2.cell? ⟨B0, 0, none⟩ = some (.int .i64 c.real) := cO HV2.out.cr 0
           have e1 : w2.cell? ⟨B0, 1, none⟩ = some (.int .i64 c.eff) := cO HV2.out.cr 1
           have e2 : w2.cell? ⟨B0, 2, none⟩ = some (.int .i64 c.saved) := cO HV2.out.cr 2
           have e3 : w2.cell? ⟨B0, 3, none⟩ = some (.int .i64 c.group) := cO HV2.out.cr 3
           have e4 : w2.cell? ⟨B0, 4, none⟩ = some (.int .i64 c.eg) := cO HV2.out.cr 4
           cases hy : mayN m c 1 with
           | false =>
             rw [hy] at HMY
             have hee : entersE m c = 4 := by unfold entersE; rw [if_neg (fun h => h hk), if_pos hy]
             rw [hee, if_pos (by decide)] at hE
             subst hE
             clear hm hk hy hee HE
             go_wp2_with fail
             refine HD0.out.mono ?_
             rintro e w5 ⟨rfl, rfl⟩
             go_wp2_with fail
             refine HMY.out.mono ?_
             rintro e w5 ⟨rfl, hb5⟩
             have HB5 := Hd (HV2.out.below hb5)
             clear hb5
             go_wp2
             exact bodyPost_ret (v := .tuple #[.int .i64 0, .string ⟨#[]⟩, .bool false, .int .i64 4]) (by simp [results, Tryz.results58, go_sem]) rfl ⟨rfl, HB5.out.bel⟩
           | true =>
             rw [hy] at HMY
             have hee : entersE m c = 0 := by unfold entersE; rw [if_neg (fun h => h hk), hy]; rfl
             rw [hee, if_neg (fun h => h rfl)] at hE
             subst hE
             clear hm hk hy hee HE
             go_wp2_with fail
             refine HD0.out.mono ?_
             rintro e w5 ⟨rfl, rfl⟩
             go_wp2_with fail
             refine HMY.out.mono ?_
             rintro e w5 ⟨rfl, hb5⟩
             have HB5 := Hd (HV2.out.below hb5)
             have hc5 : w5.cell? ⟨bn, on + ll, none⟩ = some (.string x0) := by rw [hb5.cell (p := ⟨bn, on + ll, none⟩) hlt2]; exact hc2
             have hP5 := (hb5.block P0 (lH HP2.out)).trans HP2.out
             have p1 : w5.cell? ⟨P0, 1, none⟩ = some (.slice (some ⟨bn, on, none⟩) (ll + 1) cap) := cO hP5 1
             have p2 : w5.cell? ⟨P0, 2, none⟩ = some (.bool dir) := cO hP5 2
             clear hb5 hP5 e0 e1 e2 e3 e4 hc2 hlt2
             go_upto_region 16 with fail
             go_quiet (fail)
             rename_i nq
             go_wp2
             exact bodyPost_ret (v := .tuple #[.int .i64 (k : Int), .string x0, .bool dir, .int .i64 0]) (by simp [results, Tryz.results58, go_sem]) rfl ⟨by unfold parV; dsimp only; rw [tx_bs], belowDrewN HB5.out.bel nq⟩
         · rw [show (m.kind == 1) = false by simpa using hk] at HD0
           have hee : entersE m c = 6 := by unfold entersE; rw [if_pos hk]
           rw [hee, if_pos (by decide)] at hE
           subst hE
           clear hm hk hee HE
           go_wp2_with fail
           refine HD0.out.mono ?_
           rintro e w5 ⟨rfl, rfl⟩
           go_wp2
           exact bodyPost_ret (v := .tuple #[.int .i64 0, .string ⟨#[]⟩, .bool false, .int .i64 6]) (by simp [results, Tryz.results58, go_sem]) rfl ⟨rfl, HV2.out.bel⟩
       · have hE := HE.out
         rw [if_pos hr] at hE
         subst hE
         have hr1 : (r != 0) = true := by simpa using hr
         clear hr HE
         go_wp2
         exact bodyPost_ret (v := .tuple #[.int .i64 0, .string ⟨#[]⟩, .bool false, .int .i64 r]) (by simp [results, Tryz.results58, go_sem]) rfl ⟨rfl, HV2.out.bel⟩
 · have he1 : (err != 0) = true := by simpa using he
   have HE : Hid (D = .error err) := Hd (by
    rw [← HDD.out]
    unfold entryT
    rw [HSP.out]
    dsimp only
    rw [if_pos he])
   obtain rfl := HE.out
   clear he
   go_wp2
   exact bodyPost_ret (v := .tuple #[.int .i64 0, .string ⟨#[]⟩, .bool false, .int .i64 err]) (by simp [results, Tryz.results58, go_sem]) rfl ⟨rfl, bZ HV1.out.bel _⟩
theorem Stf.below {w w1 w' : World} {t B : Nat} {R : IT.Tr → Prop} (s : Stf w t B R w1) (hb : Below w1.heap.size w1 w') : Stf w t B R w' := by
 obtain ⟨G', T', h1, h2, h3, h4⟩ := s
 exact ⟨G', T', h1.below hb, h2.below hb, h3, h4⟩
structure DW (w : World) (t B : Nat) (G : Gt) (T : IT.Tr) (c : Cr) (b : Nat) (wr : World) : Prop where
 mo : Mo B w wr
 trf : Trf wr t B G T
 cr : wr.heap[b]? = some (.cells (credC c) 36 (0, 0))
 ne : b ≠ B
theorem DV.dw {w wr : World} {t B b : Nat} {G : Gt} {T : IT.Tr} {c : Cr} (h : DV w t B G T c b wr) (hb : B < b) : DW w t B G T c b wr := ⟨Mo.of h.bel, h.trf, h.cr, fun e => by omega⟩
theorem DW.start {w : World} {t B : Nat} {G : Gt} {T : IT.Tr} (h : Trf w t B G T) (c : Cr) : DW w t B G T c w.heap.size (w.alloc (.cells (credC c) 36)) := (DV.start h c).dw h.rep.ltB
theorem DW.below {w wr w' : World} {t B b : Nat} {G : Gt} {T : IT.Tr} {c : Cr} (h : DW w t B G T c b wr) (hb : Below wr.heap.size wr w') : DW w t B G T c b w' :=
 ⟨h.mo.below hb, h.trf.below hb, (hb.block b (lH h.cr)).trans h.cr, h.ne⟩
theorem DW.step {w wr w' : World} {t B b : Nat} {G : Gt} {T : IT.Tr} {c : Cr} (h : DW w t B G T c b wr) {R : IT.Tr → Prop} (s : Stf wr t B R w') (hR : ∀ T', R T' → IT.Sound okN T') : ∃ G' T', DW w t B G' T' c b w' ∧ R T' := by
 obtain ⟨G', T', h1, h2, h3, h4⟩ := s
 exact ⟨G', T', ⟨h.mo.trans h1, ⟨h2, h3, hR T' h4⟩, (h1.block b (lH h.cr) h.ne).trans h.cr, h.ne⟩, h4⟩
theorem DW.keep {w wr : World} {t B b : Nat} {G : Gt} {T : IT.Tr} {c : Cr} (h : DW w t B G T c b wr) {R : IT.Tr → Prop} (hR : R T) : Stf w t B R wr := ⟨G, T, h.mo, h.trf.rep, h.trf.ties, hR⟩
theorem DW.cells {w wr : World} {t B b : Nat} {G : Gt} {T : IT.Tr} {c : Cr} (h : DW w t B G T c b wr) : wr.cell? ⟨b, 0, none⟩ = some (.int .i64 c.real) ∧ wr.cell? ⟨b, 1, none⟩ = some (.int .i64 c.eff) ∧ wr.cell? ⟨b, 2, none⟩ = some (.int .i64 c.saved) ∧ wr.cell? ⟨b, 3, none⟩ = some (.int .i64 c.group) ∧ wr.cell? ⟨b, 4, none⟩ = some (.int .i64 c.eg) :=
 ⟨cO h.cr 0, cO h.cr 1, cO h.cr 2, cO h.cr 3, cO h.cr 4⟩
theorem dplainer_any {w : World} {t B : Nat} {G : Gt} {T : IT.Tr} (h : Trf w t B G T) (hm : MR T) {k : Nat} {m : IT.Nd} (hk : T k = some m) :
  Calls Tryz.prog 97 #[.pointer (some ⟨t, 0, none⟩), .int .i64 (k : Int)] w fun e w' => e = .returned (.tuple #[]) ∧ Stf w t B (fun T' => isPlainer T k T') w' := by
 have hrng := h.snd.1.rng k m hk
 have hk2 : k ≤ 200 := hrng.2
 have c0 := h.rep.cellT
 have hkp := h.ties.sok k m hk
 have b2 := h.rep.c2 k hk2
 rw [hkp.mode] at b2
 have s2 := h.rep.frozen (k * 10 + 2)
 have hkn : k < 201 := by omega
 have hkz : (k : Int) < 201 := by omega
 have hkp' : Kept { G k with mode := clr m.mode } { m with mode := clr m.mode } := ⟨hkp.is, hkp.kind, rfl, hkp.owner, hkp.group, hkp.tty, hkp.holds, hkp.parent, hkp.data, hkp.names⟩
 have HP : Hid (Stf w t B (fun T' => isPlainer T k T') (w.setCell ⟨B, k * 10 + 2, none⟩ (.int .i64 (clr m.mode)))) := Hd ⟨_, _, (Mo.refl _ _).set _, h.rep.set hk2 (show 2 < 10 by omega) _ { G k with mode := clr m.mode } rfl (h.rep.ents k hk2), h.ties.set k hkp', by
  unfold isPlainer; rw [hk]; dsimp only
  refine ⟨0, ?_⟩
  unfold IT.isSet; rw [hk]; dsimp only; rw [if_neg (fun hh => hh (hm k m hk).clr)]; exact ⟨rfl, rfl⟩⟩
 clear h hm hk hkp hkp' hrng
 unfold clr at HP
 go_enter Tryz.func97, Tryz.ntmps97
 go_wp2_with fail
 go_region
 exact bodyPost_end (results_none rfl _ _ _) rfl ⟨rfl, HP.out.below (Below.refl _ _).drew⟩
theorem dsticky_any {w : World} {t B : Nat} {G : Gt} {T : IT.Tr} (h : Trf w t B G T) (c : Cr) {k j : Nat} {m q : IT.Nd} (hk : T k = some m) (hj : T j = some q) :
  Calls Tryz.prog 98 #[.pointer (some ⟨t, 0, none⟩), cred c, .int .i64 (k : Int), .int .i64 (j : Int)] w fun e w' => e = .returned (.bool (takesB c.eff m.mode m.owner q.owner)) ∧ Below w.heap.size w w' := by
 have hrng := h.snd.1.rng k m hk
 have hrn2 := h.snd.1.rng j q hj
 have hk2 : k ≤ 200 := hrng.2
 have hj2 : j ≤ 200 := hrn2.2
 have c0 := h.rep.cellT
 have hltT := h.rep.ltT
 have hltB := h.rep.ltB
 have hkp := h.ties.sok k m hk
 have hjp := h.ties.sok j q hj
 have b2 := h.rep.c2 k hk2
 have b3 := h.rep.c3 k hk2
 have d3 := h.rep.c3 j hj2
 rw [hkp.mode] at b2
 rw [hkp.owner] at b3
 rw [hjp.owner] at d3
 have hkn : k < 201 := by omega
 have hkz : (k : Int) < 201 := by omega
 have hjn : j < 201 := by omega
 have hjz : (j : Int) < 201 := by omega
 obtain ⟨real, eff, saved, group, eg⟩ := c
 unfold cred takesB
 dsimp only
 clear h hkp hjp hk hj hrng hrn2
 generalize hq : (bits BinOp.and .i64 m.mode 512 == 0) = b
 cases b <;> cases h1 : (eff == 0) <;> cases h2 : (eff == m.owner) <;> cases h3 : (eff == q.owner) <;>
 · go_enter Tryz.func98, Tryz.ntmps98
   go_wp2_with fail
   go_quiet (fail)
   rename_i nq
   go_wp2
   go_ret
   exact ⟨rfl, belowDrewN (bZ (Below.refl _ _) _) nq⟩
theorem dmakes_any {w : World} {t B : Nat} {G : Gt} {T : IT.Tr} (h : Trf w t B G T) (hm : MR T) (hb : HB T 1000000) (c : Cr) {k : Nat} {m : IT.Nd} (hk : T k = some m) (name : ByteArray) (kind mode : Int) (hmo : mode < 9223372036854775808) :
  Calls Tryz.prog 94 #[.pointer (some ⟨t, 0, none⟩), cred c, .int .i64 (k : Int), .string name, .int .i64 kind, .int .i64 mode] w fun e w' => ∃ (i : Nat) (r : Int), e = .returned (.tuple #[.int .i64 i, .int .i64 r]) ∧ Stf w t B (fun T' => isMakes (mayN m c 2) T c k (bs name) kind mode i r T') w' := by
 have HV := Hd (DW.start h c)
 have HH := Hd hb
 have HM := Hd hm
 have HK := Hd hk
 obtain ⟨e0, e1, e2, e3, e4⟩ := HV.out.cells
 have HMY := Hd (dmay_any HV.out.trf hm c hk 2)
 generalize mayN m c 2 = q at *
 clear h hb hm hk
 unfold cred at HMY ⊢
 have hcr : credC c = #[.int .i64 c.real, .int .i64 c.eff, .int .i64 c.saved, .int .i64 c.group, .int .i64 c.eg] := rfl
 rw [hcr] at HMY HV e0 e1 e2 e3 e4
 go_enter Tryz.func94, Tryz.ntmps94
 go_wp2_with fail
 refine HMY.out.mono ?_
 rintro e w2 ⟨rfl, hb⟩
 have HV2 := Hd (HV.out.below hb)
 clear HV HMY hb e0 e1 e2 e3 e4
 cases q with
 | false =>
   go_wp2
   exact bodyPost_ret (v := .tuple #[.int .i64 0, .int .i64 4]) (by simp [results, Tryz.results94, go_sem]) rfl ⟨0, 4, rfl, HV2.out.keep (by unfold isMakes; rw [if_pos rfl]; exact ⟨rfl, rfl, rfl⟩)⟩
 | true =>
   obtain ⟨e0, e1, e2, e3, e4⟩ := HV2.out.cells
   go_wp2_with fail
   refine (rf_make HV2.out.trf kind mode c.eff c.eg 0 hmo).mono ?_
   rintro e w3 ⟨i1, r1, rfl, hs⟩
   obtain ⟨G1, T1, hv3, hr1⟩ := HV2.out.step hs fun T' hT' => hT'.sound HV2.out.trf.snd
   have HV3 := Hd hv3
   have HR1 := Hd hr1
   clear hs hv3 hr1 e0 e1 e2 e3 e4 HV2
   by_cases hz : r1 = 0
   · subst hz
     go_wp2_with fail
     refine (rf_enter HV3.out.trf (k : Int) (i1 : Int) name).mono ?_
     rintro e w4 ⟨r2, rfl, hs⟩
     obtain ⟨G2, T2, hv4, hr2⟩ := HV3.out.step hs fun T' hT' => hT'.sound HV3.out.trf.snd
     have HV4 := Hd hv4
     have HR2 := Hd hr2
     clear hs hv4 hr2 HV3
     by_cases hz : r2 = 0
     · subst hz
       go_wp2
       exact bodyPost_ret (v := .tuple #[.int .i64 (i1 : Int), .int .i64 0]) (by simp [results, Tryz.results94, go_sem]) rfl ⟨i1, 0, rfl, HV4.out.keep (by
        unfold isMakes
        rw [if_neg (by simp)]
        refine ⟨i1, 0, T1, HR1.out, ?_⟩
        rw [if_neg (fun hh => hh rfl)]
        refine ⟨0, T2, HR2.out, ?_⟩
        rw [if_neg (fun hh => hh rfl)]
        exact ⟨rfl, rfl, rfl⟩)⟩
     · have hz1 : (r2 != 0) = true := by simpa using hz
       have HNZ := Hd hz
       clear hz
       go_wp2_with fail
       refine (rf_drop HV4.out.trf ((HH.out.make (by decide) HR1.out).enter HR2.out) (i1 : Int)).mono ?_
       rintro e w5 ⟨b, rfl, hs⟩
       have HS5 := Hd (Stf.pre HV4.out.mo hs)
       clear hs
       go_wp2
       exact bodyPost_ret (v := .tuple #[.int .i64 0, .int .i64 r2]) (by simp [results, Tryz.results94, go_sem]) rfl ⟨0, r2, rfl, HS5.out.imp fun T' hT' => by
        unfold isMakes
        rw [if_neg (by simp)]
        refine ⟨i1, 0, T1, HR1.out, ?_⟩
        rw [if_neg (fun hh => hh rfl)]
        refine ⟨r2, T2, HR2.out, ?_⟩
        rw [if_pos HNZ.out]
        exact ⟨rfl, rfl, b, hT'⟩⟩
   · have hz1 : (r1 != 0) = true := by simpa using hz
     have HNZ := Hd hz
     clear hz
     go_wp2
     exact bodyPost_ret (v := .tuple #[.int .i64 0, .int .i64 r1]) (by simp [results, Tryz.results94, go_sem]) rfl ⟨0, r1, rfl, HV3.out.keep (by
      unfold isMakes
      rw [if_neg (by simp)]
      refine ⟨i1, r1, T1, HR1.out, ?_⟩
      rw [if_pos HNZ.out]
      exact ⟨rfl, rfl, rfl⟩)⟩
theorem DW.par_err {w wr : World} {t B b : Nat} {G : Gt} {T : IT.Tr} {c : Cr} (h : DW w t B G T c b wr) (hm : MR T) (cwd : Int) (s : ByteArray) (hs : s.size ≤ 1048576) {r : Int} (he : entryT T c cwd (bs s) = .error r) :
  Calls Tryz.prog 58 #[.pointer (some ⟨t, 0, none⟩), .int .i64 cwd, .agg #[.int .i64 c.real, .int .i64 c.eff, .int .i64 c.saved, .int .i64 c.group, .int .i64 c.eg], .string s] wr fun e w' => e = .returned (.tuple #[.int .i64 0, .string ⟨#[]⟩, .bool false, .int .i64 r]) ∧ DW w t B G T c b w' :=
 (dparent_any h.trf hm cwd c s hs).mono (by
   rintro e w' ⟨rfl, hb⟩
   rw [he]
   exact ⟨rfl, h.below hb⟩)
theorem DW.par_ok {w wr : World} {t B b : Nat} {G : Gt} {T : IT.Tr} {c : Cr} (h : DW w t B G T c b wr) (hm : MR T) (cwd : Int) (s : ByteArray) (hs : s.size ≤ 1048576) {k : Nat} {nm : IT.Bytes} {must : Bool} {tg : Option Nat} (he : entryT T c cwd (bs s) = .ok ⟨k, nm, must, tg⟩) :
  Calls Tryz.prog 58 #[.pointer (some ⟨t, 0, none⟩), .int .i64 cwd, .agg #[.int .i64 c.real, .int .i64 c.eff, .int .i64 c.saved, .int .i64 c.group, .int .i64 c.eg], .string s] wr fun e w' => e = .returned (.tuple #[.int .i64 (k : Int), .string (tx nm), .bool must, .int .i64 0]) ∧ DW w t B G T c b w' :=
 (dparent_any h.trf hm cwd c s hs).mono (by
   rintro e w' ⟨rfl, hb⟩
   rw [he]
   exact ⟨rfl, h.below hb⟩)
theorem DW.find {w wr : World} {t B b : Nat} {G : Gt} {T : IT.Tr} {c : Cr} (h : DW w t B G T c b wr) (hm : MR T) (cwd : Int) (s : ByteArray) (hs : s.size ≤ 1048576) {k : Nat} {r : Int} (he : findT T c cwd (bs s) = (k, r)) :
  Calls Tryz.prog 57 #[.pointer (some ⟨t, 0, none⟩), .int .i64 cwd, .agg #[.int .i64 c.real, .int .i64 c.eff, .int .i64 c.saved, .int .i64 c.group, .int .i64 c.eg], .string s] wr fun e w' => e = .returned (.tuple #[.int .i64 (k : Int), .int .i64 r]) ∧ DW w t B G T c b w' :=
 (dfind_any h.trf hm cwd c s hs).mono (by
   rintro e w' ⟨rfl, hb⟩
   rw [he]
   exact ⟨rfl, h.below hb⟩)
theorem DW.look {w wr : World} {t B b : Nat} {G : Gt} {T : IT.Tr} {c : Cr} (h : DW w t B G T c b wr) {k : Nat} {nm : IT.Bytes} {tg : Option Nat} (he : tg = lookT T k nm) :
  Calls Tryz.prog 93 #[.pointer (some ⟨t, 0, none⟩), .int .i64 (k : Int), .string (tx nm)] wr fun e w' => e = .returned (lookV tg) ∧ wr = w' := by
 have := rf_look h.trf (k : Int) (tx nm)
 rw [Int.toNat_natCast, bs_tx, ← he] at this
 exact this
theorem DW.dir {w wr : World} {t B b : Nat} {G : Gt} {T : IT.Tr} {c : Cr} (h : DW w t B G T c b wr) {k : Nat} {m : IT.Nd} (hk : T k = some m) :
  Calls Tryz.prog 91 #[.pointer (some ⟨t, 0, none⟩), .int .i64 (k : Int)] wr fun e w' => e = .returned (.bool (m.kind == 1)) ∧ wr = w' := by
 have := rf_dir h.trf (k : Int)
 rw [Int.toNat_natCast, hk] at this
 exact this
theorem DW.may {w wr : World} {t B b : Nat} {G : Gt} {T : IT.Tr} {c : Cr} (h : DW w t B G T c b wr) (hm : MR T) {k : Nat} {m : IT.Nd} (hk : T k = some m) (want : Int) :
  Calls Tryz.prog 92 #[.pointer (some ⟨t, 0, none⟩), .agg #[.int .i64 c.real, .int .i64 c.eff, .int .i64 c.saved, .int .i64 c.group, .int .i64 c.eg], .int .i64 (k : Int), .int .i64 want] wr fun e w' => e = .returned (.bool (mayN m c want)) ∧ DW w t B G T c b w' :=
 (dmay_any h.trf hm c hk want).mono (by
   rintro e w' ⟨rfl, hb⟩
   exact ⟨rfl, h.below hb⟩)
theorem DW.sticky {w wr : World} {t B b : Nat} {G : Gt} {T : IT.Tr} {c : Cr} (h : DW w t B G T c b wr) {k j : Nat} {m q : IT.Nd} (hk : T k = some m) (hj : T j = some q) :
  Calls Tryz.prog 98 #[.pointer (some ⟨t, 0, none⟩), .agg #[.int .i64 c.real, .int .i64 c.eff, .int .i64 c.saved, .int .i64 c.group, .int .i64 c.eg], .int .i64 (k : Int), .int .i64 (j : Int)] wr fun e w' => e = .returned (.bool (takesB c.eff m.mode m.owner q.owner)) ∧ DW w t B G T c b w' :=
 (dsticky_any h.trf c hk hj).mono (by
   rintro e w' ⟨rfl, hb⟩
   exact ⟨rfl, h.below hb⟩)
theorem DW.begin {w : World} {t B : Nat} {G : Gt} {T : IT.Tr} (h : Trf w t B G T) (c : Cr) : DW w t B G T c w.heap.size (w.alloc (.cells #[.int .i64 c.real, .int .i64 c.eff, .int .i64 c.saved, .int .i64 c.group, .int .i64 c.eg] 36)) := DW.start h c
theorem dmkdir_any {w : World} {t B : Nat} {G : Gt} {T : IT.Tr} (h : Trf w t B G T) (hm : MR T) (hb : HB T 999999) (cwd : Int) (c : Cr) (s : ByteArray) (hs : s.size ≤ 1048576) (mode : Int) (hmo : mode < 9223372036854775808) :
  Calls Tryz.prog 60 #[.pointer (some ⟨t, 0, none⟩), .int .i64 cwd, cred c, .string s, .int .i64 mode] w fun e w' => ∃ r, e = .returned (.int .i64 r) ∧ Stf w t B (fun T' => isMkdir T c cwd (bs s) mode r T') w' := by
 have HV := Hd (DW.begin h c)
 have HM := Hd hm
 have HH := Hd (hb.mono (show 999999 ≤ 1000000 by omega))
 obtain ⟨e0, e1, e2, e3, e4⟩ := HV.out.cells
 have HRI := fun W => Hd (Md.rright_any mode hmo W)
 clear h hm hb
 unfold cred
 cases hr : Md.rightB mode with
 | false =>
   rw [hr] at HRI
   have HR := Hd hr
   clear hr
   go_enter Tryz.func60, Tryz.ntmps60
   go_wp2_with fail
   refine (HRI _).out.mono ?_
   rintro e w1 ⟨rfl, rfl⟩
   go_wp2
   go_ret
   exact ⟨1, rfl, HV.out.keep (by unfold isMkdir; rw [if_pos HR.out]; exact ⟨rfl, rfl⟩)⟩
 | true =>
   rw [hr] at HRI
   have HR : Hid (¬ Md.rightB mode = false) := Hd (by rw [hr]; simp)
   clear hr
   cases he : entryT T c cwd (bs s) with
   | error r0 =>
     have HE := Hd he
     have HP := Hd (HV.out.par_err HM.out cwd s hs he)
     have hz : (r0 != 0) = true := by simpa using entry_ne he
     clear he
     go_enter Tryz.func60, Tryz.ntmps60
     go_wp2_with fail
     refine (HRI _).out.mono ?_
     rintro e w1 ⟨rfl, rfl⟩
     go_wp2_with fail
     refine HP.out.mono ?_
     rintro e w1 ⟨rfl, hv⟩
     have HV1 := Hd hv
     clear hv
     go_wp2
     go_ret
     exact ⟨r0, rfl, HV1.out.keep (by unfold isMkdir; rw [if_neg HR.out, HE.out]; exact ⟨rfl, rfl⟩)⟩
   | ok x =>
     obtain ⟨k, nm, must, tg⟩ := x
     obtain ⟨m, hk, hto, _⟩ := entry_ok he
     dsimp only at hk hto
     have HE := Hd he
     have HK := Hd hk
     have HTO := Hd hto
     have HP := Hd (HV.out.par_ok HM.out cwd s hs he)
     clear he hk hto
     go_enter Tryz.func60, Tryz.ntmps60
     go_wp2_with fail
     refine (HRI _).out.mono ?_
     rintro e w1 ⟨rfl, rfl⟩
     go_wp2_with fail
     refine HP.out.mono ?_
     rintro e w1 ⟨rfl, hv⟩
     have HV1 := Hd hv
     have HLO := Hd (hv.look HTO.out)
     clear hv HV HP e0 e1 e2 e3 e4
     cases tg with
     | some j =>
       unfold lookV at HLO
       go_wp2_with fail
       refine HLO.out.mono ?_
       rintro e w2 ⟨rfl, rfl⟩
       go_wp2
       go_ret
       exact ⟨5, rfl, HV1.out.keep (by unfold isMkdir; rw [if_neg HR.out, HE.out]; dsimp only; rw [if_pos (show (some j).isSome = true from rfl)]; exact ⟨rfl, rfl⟩)⟩
     | none =>
       unfold lookV at HLO
       obtain ⟨e0, e1, e2, e3, e4⟩ := HV1.out.cells
       have HMK := Hd (dmakes_any HV1.out.trf HM.out HH.out c HK.out (tx nm) 1 mode hmo)
       rw [bs_tx] at HMK
       unfold cred at HMK
       go_wp2_with fail
       refine HLO.out.mono ?_
       rintro e w2 ⟨rfl, rfl⟩
       go_wp2_with fail
       refine HMK.out.mono ?_
       rintro e w3 ⟨i1, r1, rfl, hs3⟩
       obtain ⟨G1, T1, hv3, hr1⟩ := HV1.out.step hs3 fun T' hT' => hT'.sound HV1.out.trf.snd
       have HV3 := Hd hv3
       have HR1 := Hd hr1
       clear hs3 hv3 hr1 e0 e1 e2 e3 e4 HV1 HLO HMK
       by_cases hz : r1 = 0
       · subst hz
         go_wp2_with fail
         refine (rf_drop HV3.out.trf (HH.out.makes (by decide) HR1.out) (i1 : Int)).mono ?_
         rintro e w4 ⟨b, rfl, hs4⟩
         have HS4 := Hd (Stf.pre HV3.out.mo hs4)
         clear hs4
         go_wp2
         go_ret
         exact ⟨0, rfl, HS4.out.imp fun T' hT' => by
          unfold isMkdir
          rw [if_neg HR.out, HE.out]
          dsimp only
          rw [if_neg (show ¬ (none : Option Nat).isSome = true by simp)]
          exact ⟨m, i1, 0, T1, HK.out, HR1.out, by rw [if_pos rfl]; exact ⟨rfl, b, hT'⟩⟩⟩
       · have hz1 : (r1 == 0) = false := by simpa using hz
         have HNZ := Hd hz
         clear hz
         go_wp2
         go_ret
         exact ⟨r1, rfl, HV3.out.keep (by
          unfold isMkdir
          rw [if_neg HR.out, HE.out]
          dsimp only
          rw [if_neg (show ¬ (none : Option Nat).isSome = true by simp)]
          exact ⟨m, i1, r1, T1, HK.out, HR1.out, by rw [if_neg HNZ.out]; exact ⟨rfl, rfl⟩⟩)⟩
theorem Trf.ten {w : World} {t B : Nat} {G : Gt} {T : IT.Tr} (h : Trf w t B G T) {k : Nat} {m : IT.Nd} (hk : T k = some m) :
  ∃ (x0 : Bool) (x6 x7 : Int) (x8 : ByteArray) (a : Option Addr) (n cap : Nat), k < 201 ∧ w.cell? ⟨t, 0, none⟩ = some (.slice (some ⟨B, 0, none⟩) 201 201) ∧ t < w.heap.size ∧ B < w.heap.size ∧
   w.cell? ⟨B, k * 10, none⟩ = some (.bool x0) ∧ w.cell? ⟨B, k * 10 + 1, none⟩ = some (.int .i64 m.kind) ∧ w.cell? ⟨B, k * 10 + 2, none⟩ = some (.int .i64 m.mode) ∧ w.cell? ⟨B, k * 10 + 3, none⟩ = some (.int .i64 m.owner) ∧ w.cell? ⟨B, k * 10 + 4, none⟩ = some (.int .i64 m.group) ∧ w.cell? ⟨B, k * 10 + 5, none⟩ = some (.int .i64 m.tty) ∧ w.cell? ⟨B, k * 10 + 6, none⟩ = some (.int .i64 x6) ∧ w.cell? ⟨B, k * 10 + 7, none⟩ = some (.int .i64 x7) ∧ w.cell? ⟨B, k * 10 + 8, none⟩ = some (.string x8) ∧ w.cell? ⟨B, k * 10 + 9, none⟩ = some (.slice a n cap) := by
 have hk2 : k ≤ 200 := (h.snd.1.rng k m hk).2
 have hKp := h.ties.sok k m hk
 obtain ⟨a9, cap9, e9, _, _, _⟩ := (h.rep.ents k hk2).lit
 have b1 := h.rep.c1 k hk2
 have b2 := h.rep.c2 k hk2
 have b3 := h.rep.c3 k hk2
 have b4 := h.rep.c4 k hk2
 have b5 := h.rep.c5 k hk2
 have b9 := h.rep.c9 k hk2
 rw [hKp.kind] at b1
 rw [hKp.mode] at b2
 rw [hKp.owner] at b3
 rw [hKp.group] at b4
 rw [hKp.tty] at b5
 rw [e9] at b9
 exact ⟨_, _, _, _, _, _, _, by omega, h.rep.cellT, h.rep.ltT, h.rep.ltB, h.rep.c0 k hk2, b1, b2, b3, b4, b5, h.rep.c6 k hk2, h.rep.c7 k hk2, h.rep.c8 k hk2, b9⟩
theorem dchmod_any {w : World} {t B : Nat} {G : Gt} {T : IT.Tr} (h : Trf w t B G T) (hm : MR T) (cwd : Int) (c : Cr) (s : ByteArray) (hs : s.size ≤ 1048576) (mode : Int) (hmo : mode < 9223372036854775808) :
  Calls Tryz.prog 64 #[.pointer (some ⟨t, 0, none⟩), .int .i64 cwd, cred c, .string s, .int .i64 mode] w fun e w' => ∃ r, e = .returned (.int .i64 r) ∧ Stf w t B (fun T' => isChmod T c cwd (bs s) mode r T') w' := by
 have HV := Hd (DW.begin h c)
 obtain ⟨e0, e1, e2, e3, e4⟩ := HV.out.cells
 obtain ⟨⟨k, r0⟩, hg⟩ : ∃ g, findT T c cwd (bs s) = g := ⟨_, rfl⟩
 have HG := Hd hg
 have HF := Hd (HV.out.find hm cwd s hs hg)
 have HMO := Hd hmo
 have HTH : Hid (r0 = 0 → ∃ m, T k = some m) := Hd (fun e => by have := find_there (c := c) (cwd := cwd) (s := bs s) h.snd; rw [hg] at this; exact this e)
 clear h hm hg hmo
 unfold cred
 by_cases hz : r0 = 0
 · subst hz
   obtain ⟨m, hk⟩ := HTH.out rfl
   have HK := Hd hk
   clear hk
   have HPM : Hid ((c.eff ≠ 0 ∧ c.eff ≠ m.owner) ↔ ((c.eff != 0) && (c.eff != m.owner)) = true) := Hd (by simp)
   cases q0b : (c.eff != 0) <;> cases q1b : (c.eff != m.owner) <;> rw [q0b, q1b] at HPM
   all_goals
    go_enter Tryz.func64, Tryz.ntmps64
    go_wp2_with fail
    refine HF.out.mono ?_
    rintro e w1 ⟨rfl, hv⟩
    have HV1 := Hd hv
    obtain ⟨x0, x6, x7, x8, a9, n9, c9, hkn, b, hlt, hlB, b0, b1, b2, b3, b4, b5, b6, b7, b8, b9⟩ := hv.trf.ten HK.out
    obtain ⟨e0, e1, e2, e3, e4⟩ := hv.cells
    have hkz : (k : Int) < 201 := by omega
    have elt := lH hv.cr
    clear hv
    go_wp2_with fail
    first
     | (go_ret
        exact ⟨2, rfl, (HV1.out.below (bZ (Below.refl _ _) _)).keep (by
         unfold isChmod
         rw [HG.out, if_neg (fun hh => hh rfl)]
         refine ⟨m, HK.out, ?_⟩
         rw [if_pos (HPM.out.2 (by simp))]
         exact ⟨rfl, rfl⟩)⟩)
     | (have HV2 := Hd (HV1.out.below (bZ (Below.refl _ _) (.cells #[.bool x0, .int .i64 m.kind, .int .i64 m.mode, .int .i64 m.owner, .int .i64 m.group, .int .i64 m.tty, .int .i64 x6, .int .i64 x7, .string x8, .slice a9 n9 c9] 112)))
        refine (rf_set HV2.out.trf (k : Int) _ _ _ (HMO.out)).mono ?_
        rintro e w3 ⟨r, rfl, hs3⟩
        have HS3 := Hd (Stf.pre HV2.out.mo hs3)
        clear hs3
        go_wp2
        go_ret
        exact ⟨r, rfl, HS3.out.imp fun T' hT' => by
         unfold isChmod
         rw [HG.out, if_neg (fun hh => hh rfl)]
         refine ⟨m, HK.out, ?_⟩
         rw [if_neg (fun hh => by have := HPM.out.1 hh; simp at this)]
         exact hT'⟩)
 · have hz1 : (r0 != 0) = true := by simpa using hz
   have HNZ := Hd hz
   clear hz
   go_enter Tryz.func64, Tryz.ntmps64
   go_wp2_with fail
   refine HF.out.mono ?_
   rintro e w1 ⟨rfl, hv⟩
   have HV1 := Hd hv
   clear hv
   go_wp2
   go_ret
   exact ⟨r0, rfl, HV1.out.keep (by unfold isChmod; rw [HG.out, if_pos HNZ.out]; exact ⟨rfl, rfl⟩)⟩
theorem dchown_any {w : World} {t B : Nat} {G : Gt} {T : IT.Tr} (h : Trf w t B G T) (hm : MR T) (cwd : Int) (c : Cr) (s : ByteArray) (hs : s.size ≤ 1048576) (owner group : Int) :
  Calls Tryz.prog 65 #[.pointer (some ⟨t, 0, none⟩), .int .i64 cwd, cred c, .string s, .int .i64 owner, .int .i64 group] w fun e w' => ∃ r, e = .returned (.int .i64 r) ∧ Stf w t B (fun T' => isChown T c cwd (bs s) owner group r T') w' := by
 have HV := Hd (DW.begin h c)
 obtain ⟨e0, e1, e2, e3, e4⟩ := HV.out.cells
 obtain ⟨⟨k, r0⟩, hg⟩ : ∃ g, findT T c cwd (bs s) = g := ⟨_, rfl⟩
 have HG := Hd hg
 have HF := Hd (HV.out.find hm cwd s hs hg)
 have HMM := Hd hm
 have HTH : Hid (r0 = 0 → ∃ m, T k = some m) := Hd (fun e => by have := find_there (c := c) (cwd := cwd) (s := bs s) h.snd; rw [hg] at this; exact this e)
 clear h hm hg
 unfold cred
 by_cases hz : r0 = 0
 · subst hz
   obtain ⟨m, hk⟩ := HTH.out rfl
   have HK := Hd hk
   clear hk
   have HPM : Hid ((c.eff ≠ 0 ∧ ¬ (c.eff = m.owner ∧ owner = m.owner ∧ (group = c.eg ∨ group = m.group))) ↔ ((c.eff != 0) && ((c.eff != m.owner) || ((owner != m.owner) || ((group != c.eg) && (group != m.group))))) = true) := Hd (by simp only [Bool.and_eq_true, Bool.or_eq_true, bne_iff_ne]; omega)
   have HMO : Hid (bits .andNot .i64 m.mode 2048 < 9223372036854775808) := Hd (by obtain ⟨n, e, hn⟩ := Md.right_nat (rt_right (HMM.out k m HK.out).clr); have e2 : bits .andNot .i64 m.mode 2048 = (n : Int) := e; rw [e2]; omega)
   cases q0b : (c.eff != 0) <;> cases q1b : (c.eff != m.owner) <;> cases q2b : (owner != m.owner) <;> cases q3b : (group != c.eg) <;> cases q4b : (group != m.group) <;> rw [q0b, q1b, q2b, q3b, q4b] at HPM
   all_goals
    go_enter Tryz.func65, Tryz.ntmps65
    go_wp2_with fail
    refine HF.out.mono ?_
    rintro e w1 ⟨rfl, hv⟩
    have HV1 := Hd hv
    obtain ⟨x0, x6, x7, x8, a9, n9, c9, hkn, b, hlt, hlB, b0, b1, b2, b3, b4, b5, b6, b7, b8, b9⟩ := hv.trf.ten HK.out
    obtain ⟨e0, e1, e2, e3, e4⟩ := hv.cells
    have hkz : (k : Int) < 201 := by omega
    have elt := lH hv.cr
    clear hv
    go_wp2_with fail
    first
     | (go_ret
        exact ⟨2, rfl, (HV1.out.below (bZ (Below.refl _ _) _)).keep (by
         unfold isChown
         rw [HG.out, if_neg (fun hh => hh rfl)]
         refine ⟨m, HK.out, ?_⟩
         rw [if_pos (HPM.out.2 (by simp))]
         exact ⟨rfl, rfl⟩)⟩)
     | (have HV2 := Hd (HV1.out.below (bZ (Below.refl _ _) (.cells #[.bool x0, .int .i64 m.kind, .int .i64 m.mode, .int .i64 m.owner, .int .i64 m.group, .int .i64 m.tty, .int .i64 x6, .int .i64 x7, .string x8, .slice a9 n9 c9] 112)))
        refine (rf_set HV2.out.trf (k : Int) _ _ _ (HMO.out)).mono ?_
        rintro e w3 ⟨r, rfl, hs3⟩
        have HS3 := Hd (Stf.pre HV2.out.mo hs3)
        clear hs3
        go_wp2
        go_ret
        exact ⟨r, rfl, HS3.out.imp fun T' hT' => by
         unfold isChown
         rw [HG.out, if_neg (fun hh => hh rfl)]
         refine ⟨m, HK.out, ?_⟩
         rw [if_neg (fun hh => by have := HPM.out.1 hh; simp at this)]
         exact hT'⟩)
 · have hz1 : (r0 != 0) = true := by simpa using hz
   have HNZ := Hd hz
   clear hz
   go_enter Tryz.func65, Tryz.ntmps65
   go_wp2_with fail
   refine HF.out.mono ?_
   rintro e w1 ⟨rfl, hv⟩
   have HV1 := Hd hv
   clear hv
   go_wp2
   go_ret
   exact ⟨r0, rfl, HV1.out.keep (by unfold isChown; rw [HG.out, if_pos HNZ.out]; exact ⟨rfl, rfl⟩)⟩
theorem put_there {T T' : IT.Tr} {k : Nat} {a : Int} {s : IT.Bytes} (h : IT.isPut T k a s 0 T') : (∃ n, T k = some n) ∧ ∃ m, T' k = some m := by
 unfold IT.isPut at h
 cases hk : T k with
 | none => rw [hk] at h; omega
 | some n =>
   rw [hk] at h
   dsimp only at h
   refine ⟨⟨n, rfl⟩, ?_⟩
   split at h
   · omega
   · split at h
     · omega
     · split at h
       · omega
       · split at h
         · omega
         · rw [h.2]; exact ⟨_, IT.uY _ _ _⟩
theorem dput_any {w : World} {t B : Nat} {G : Gt} {T : IT.Tr} (h : Trf w t B G T) (hm : MR T) (ki a : Int) (s : ByteArray) (hs : s.size ≤ maxLen) (ha : -9223372036854775808 ≤ a) :
  Calls Tryz.prog 67 #[.pointer (some ⟨t, 0, none⟩), .int .i64 ki, .int .i64 a, .string s] w fun e w' => ∃ r, e = .returned (.int .i64 r) ∧ Stf w t B (fun T' => isWPut T ki.toNat a (bs s) r T') w' := by
 have HV := Hd h
 have HM := Hd hm
 have HP := Hd (rf_put h ki a s hs ha)
 clear h hm hs ha
 go_enter Tryz.func67, Tryz.ntmps67
 go_wp2_with fail
 refine HP.out.mono ?_
 rintro e w1 ⟨r, rfl, hst⟩
 obtain ⟨G1, T1, g1, g2, g3, hr⟩ := hst
 have HG := Hd g1
 have HV1 := Hd (Trf.mk g2 g3 (hr.sound HV.out.snd))
 have HR := Hd hr
 clear g1 g2 g3 hr HP
 by_cases hz : r = 0
 · subst hz
   obtain ⟨⟨n, hn⟩, m1, hm1⟩ := put_there HR.out
   obtain ⟨k, rfl, _, _, _⟩ := HV.out.nat hn
   have HPL := Hd (dplainer_any HV1.out (HM.out.put HR.out) (k := k) hm1)
   clear hn hm1
   go_wp2_with fail
   refine HPL.out.mono ?_
   rintro e w2 ⟨rfl, hst⟩
   have HS := Hd (Stf.pre HG.out hst)
   clear hst
   go_wp2
   go_ret
   exact ⟨0, rfl, HS.out.imp fun T' hT' => ⟨T1, HR.out, by rw [if_pos rfl]; exact hT'⟩⟩
 · have hz1 : (r == 0) = false := by simpa using hz
   have HNZ := Hd hz
   clear hz
   go_wp2
   go_ret
   exact ⟨r, rfl, G1, T1, HG.out, HV1.out.rep, HV1.out.ties, ⟨T1, HR.out, by rw [if_neg HNZ.out]⟩⟩
theorem dremove_any {w : World} {t B : Nat} {G : Gt} {T : IT.Tr} (h : Trf w t B G T) (hm : MR T) (cwd : Int) (c : Cr) (s : ByteArray) (hs : s.size ≤ 1048576) (dir : Bool) :
  Calls Tryz.prog 61 #[.pointer (some ⟨t, 0, none⟩), .int .i64 cwd, cred c, .string s, .bool dir] w fun e w' => ∃ r, e = .returned (.int .i64 r) ∧ Stf w t B (fun T' => isWRemove T c cwd (bs s) dir r T') w' := by
 have HV := Hd (DW.begin h c)
 have HM := Hd hm
 obtain ⟨e0, e1, e2, e3, e4⟩ := HV.out.cells
 clear h hm
 unfold cred
 cases he : entryT T c cwd (bs s) with
 | error r0 =>
   have HE := Hd he
   have HP := Hd (HV.out.par_err HM.out cwd s hs he)
   have hz : (r0 != 0) = true := by simpa using entry_ne he
   clear he
   go_enter Tryz.func61, Tryz.ntmps61
   go_wp2_with fail
   refine HP.out.mono ?_
   rintro e w1 ⟨rfl, hv⟩
   have HV1 := Hd hv
   clear hv
   go_wp2
   go_ret
   exact ⟨r0, rfl, HV1.out.keep (by unfold isWRemove; rw [HE.out]; exact ⟨rfl, rfl⟩)⟩
 | ok x =>
   obtain ⟨k, nm, must, tg⟩ := x
   obtain ⟨m, hk, hto, _⟩ := entry_ok he
   dsimp only at hk hto
   have HE := Hd he
   have HK := Hd hk
   have HTO := Hd hto
   have HP := Hd (HV.out.par_ok HM.out cwd s hs he)
   clear he hk hto
   cases tg with
   | none =>
     go_enter Tryz.func61, Tryz.ntmps61
     go_wp2_with fail
     refine HP.out.mono ?_
     rintro e w1 ⟨rfl, hv⟩
     have HV1 := Hd hv
     have HLO := Hd (hv.look HTO.out)
     clear hv
     unfold lookV at HLO
     go_wp2_with fail
     refine HLO.out.mono ?_
     rintro e w2 ⟨rfl, rfl⟩
     go_wp2
     go_ret
     exact ⟨3, rfl, HV1.out.keep (by unfold isWRemove; rw [HE.out]; exact ⟨rfl, rfl⟩)⟩
   | some j =>
     obtain ⟨q, hq⟩ := look_there HV.out.trf.snd HTO.out.symm
     have HQ := Hd hq
     clear hq
     cases dir <;> cases must <;> cases hd : (q.kind == 1)
     all_goals
      have HKD := Hd hd
      simp only [beq_iff_eq, beq_eq_false_iff_ne] at HKD
      go_enter Tryz.func61, Tryz.ntmps61
      go_wp2_with fail
      refine HP.out.mono ?_
      rintro e w1 ⟨rfl, hv⟩
      have HV1 := Hd hv
      have HLO := Hd (hv.look HTO.out)
      have HDI := Hd (hv.dir HQ.out)
      rw [hd] at HDI
      clear hv hd e0 e1 e2 e3 e4 HP
      unfold lookV at HLO
      go_wp2_with fail
      refine HLO.out.mono ?_
      rintro e w2 ⟨rfl, rfl⟩
      go_wp2_with fail
      refine HDI.out.mono ?_
      rintro e w2 ⟨rfl, rfl⟩
      obtain ⟨e0, e1, e2, e3, e4⟩ := HV1.out.cells
      go_wp2_with fail
      first
       | (go_ret
          refine ⟨_, rfl, HV1.out.keep ?_⟩
          unfold isWRemove
          rw [HE.out]
          exact ⟨m, q, HK.out, HQ.out, by simp [HKD.out]⟩)
       | (refine (HV1.out.may HM.out HK.out 2).mono ?_
          rintro e w3 ⟨rfl, hv⟩
          have HV3 := Hd hv
          clear hv HV1 HLO HDI e0 e1 e2 e3 e4
          cases hy : mayN m c 2 with
          | false =>
            have HY := Hd hy
            clear hy
            go_wp2
            go_ret
            refine ⟨4, rfl, HV3.out.keep ?_⟩
            unfold isWRemove
            rw [HE.out]
            exact ⟨m, q, HK.out, HQ.out, by simp [HKD.out, HY.out]⟩
          | true =>
            have HY := Hd hy
            clear hy
            obtain ⟨e0, e1, e2, e3, e4⟩ := HV3.out.cells
            go_wp2_with fail
            refine (HV3.out.sticky HK.out HQ.out).mono ?_
            rintro e w4 ⟨rfl, hv⟩
            have HV4 := Hd hv
            clear hv HV3 e0 e1 e2 e3 e4
            cases hy : takesB c.eff m.mode m.owner q.owner with
            | false =>
              have HTK := Hd hy
              clear hy
              go_wp2
              go_ret
              refine ⟨2, rfl, HV4.out.keep ?_⟩
              unfold isWRemove
              rw [HE.out]
              exact ⟨m, q, HK.out, HQ.out, by simp [HKD.out, HY.out, HTK.out]⟩
            | true =>
              have HTK := Hd hy
              clear hy
              have HRM := Hd (rf_remove HV4.out.trf (k : Int) (tx nm))
              rw [bs_tx, Int.toNat_natCast] at HRM
              go_wp2_with fail
              refine HRM.out.mono ?_
              rintro e w5 ⟨r, rfl, hst⟩
              have HS := Hd (Stf.pre HV4.out.mo hst)
              clear hst HRM
              go_wp2
              go_ret
              refine ⟨r, rfl, HS.out.imp fun T' hT' => ?_⟩
              unfold isWRemove
              rw [HE.out]
              exact ⟨m, q, HK.out, HQ.out, by simpa [HKD.out, HY.out, HTK.out] using hT'⟩)
theorem dlink_any {w : World} {t B : Nat} {G : Gt} {T : IT.Tr} (h : Trf w t B G T) (hm : MR T) (cwd : Int) (c : Cr) (s ar : ByteArray) (hs : s.size ≤ 1048576) (ha : ar.size ≤ 1048576) :
  Calls Tryz.prog 62 #[.pointer (some ⟨t, 0, none⟩), .int .i64 cwd, cred c, .string s, .string ar] w fun e w' => ∃ r, e = .returned (.int .i64 r) ∧ Stf w t B (fun T' => isLink T c cwd (bs s) (bs ar) r T') w' := by
 have HV := Hd (DW.begin h c)
 have HM := Hd hm
 obtain ⟨e0, e1, e2, e3, e4⟩ := HV.out.cells
 obtain ⟨⟨kf, r0⟩, hg⟩ : ∃ g, findT T c cwd (bs s) = g := ⟨_, rfl⟩
 have HG := Hd hg
 have HF := Hd (HV.out.find hm cwd s hs hg)
 have HTH : Hid (r0 = 0 → ∃ m, T kf = some m) := Hd (fun e => by have := find_there (c := c) (cwd := cwd) (s := bs s) h.snd; rw [hg] at this; exact this e)
 clear h hm hg
 unfold cred
 by_cases hz : r0 = 0
 · subst hz
   obtain ⟨q, hq⟩ := HTH.out rfl
   have HQ := Hd hq
   clear hq HTH
   cases hd : (q.kind == 1) with
   | true =>
     have HKD := Hd hd
     simp only [beq_iff_eq] at HKD
     go_enter Tryz.func62, Tryz.ntmps62
     go_wp2_with fail
     refine HF.out.mono ?_
     rintro e w1 ⟨rfl, hv⟩
     have HV1 := Hd hv
     have HDI := Hd (hv.dir HQ.out)
     rw [hd] at HDI
     clear hv hd
     go_wp2_with fail
     refine HDI.out.mono ?_
     rintro e w2 ⟨rfl, rfl⟩
     go_wp2
     go_ret
     exact ⟨7, rfl, HV1.out.keep (by unfold isLink; rw [HG.out, if_neg (fun hh => hh rfl)]; exact ⟨q, HQ.out, by rw [if_pos HKD.out]; exact ⟨rfl, rfl⟩⟩)⟩
   | false =>
     have HKD := Hd hd
     simp only [beq_eq_false_iff_ne] at HKD
     go_enter Tryz.func62, Tryz.ntmps62
     go_wp2_with fail
     refine HF.out.mono ?_
     rintro e w1 ⟨rfl, hv⟩
     have HV1 := Hd hv
     have HDI := Hd (hv.dir HQ.out)
     rw [hd] at HDI
     clear hv hd e0 e1 e2 e3 e4 HF HV
     obtain ⟨e0, e1, e2, e3, e4⟩ := HV1.out.cells
     cases he : entryT T c cwd (bs ar) with
     | error r0 =>
       have HE := Hd he
       have HP := Hd (HV1.out.par_err HM.out cwd ar ha he)
       have hz : (r0 != 0) = true := by simpa using entry_ne he
       clear he
       go_wp2_with fail
       refine HDI.out.mono ?_
       rintro e w2 ⟨rfl, rfl⟩
       go_wp2_with fail
       refine HP.out.mono ?_
       rintro e w2 ⟨rfl, hv⟩
       have HV2 := Hd hv
       clear hv
       go_wp2
       go_ret
       exact ⟨r0, rfl, HV2.out.keep (by unfold isLink; rw [HG.out, if_neg (fun hh => hh rfl)]; exact ⟨q, HQ.out, by rw [if_neg HKD.out, HE.out]; exact ⟨rfl, rfl⟩⟩)⟩
     | ok x =>
       obtain ⟨k, nm, must, tg⟩ := x
       obtain ⟨m, hk, hto, _⟩ := entry_ok he
       dsimp only at hk hto
       have HE := Hd he
       have HK := Hd hk
       have HTO := Hd hto
       have HP := Hd (HV1.out.par_ok HM.out cwd ar ha he)
       clear he hk hto
       go_wp2_with fail
       refine HDI.out.mono ?_
       rintro e w2 ⟨rfl, rfl⟩
       go_wp2_with fail
       refine HP.out.mono ?_
       rintro e w2 ⟨rfl, hv⟩
       have HV2 := Hd hv
       have HLO := Hd (hv.look HTO.out)
       clear hv HDI HP HV1 e0 e1 e2 e3 e4
       unfold lookV at HLO
       cases tg with
       | some j =>
         go_wp2_with fail
         refine HLO.out.mono ?_
         rintro e w3 ⟨rfl, rfl⟩
         go_wp2
         go_ret
         exact ⟨5, rfl, HV2.out.keep (by unfold isLink; rw [HG.out, if_neg (fun hh => hh rfl)]; exact ⟨q, HQ.out, by rw [if_neg HKD.out, HE.out]; exact (if_pos rfl).mpr ⟨rfl, rfl⟩⟩)⟩
       | none =>
         have HNN : Hid (¬ (none : Option Nat).isSome = true) := Hd (by simp)
         cases must with
         | true =>
           go_wp2_with fail
           refine HLO.out.mono ?_
           rintro e w3 ⟨rfl, rfl⟩
           go_wp2
           go_ret
           exact ⟨6, rfl, HV2.out.keep (by unfold isLink; rw [HG.out, if_neg (fun hh => hh rfl)]; exact ⟨q, HQ.out, by rw [if_neg HKD.out, HE.out]; simp⟩)⟩
         | false =>
           obtain ⟨e0, e1, e2, e3, e4⟩ := HV2.out.cells
           go_wp2_with fail
           refine HLO.out.mono ?_
           rintro e w3 ⟨rfl, rfl⟩
           go_wp2_with fail
           refine (HV2.out.may HM.out HK.out 2).mono ?_
           rintro e w3 ⟨rfl, hv⟩
           have HV3 := Hd hv
           clear hv HV2 HLO e0 e1 e2 e3 e4
           cases hy : mayN m c 2 with
           | false =>
             have HY := Hd hy
             clear hy
             go_wp2
             go_ret
             exact ⟨4, rfl, HV3.out.keep (by unfold isLink; rw [HG.out, if_neg (fun hh => hh rfl)]; exact ⟨q, HQ.out, by rw [if_neg HKD.out, HE.out]; simp [HK.out, HY.out]⟩)⟩
           | true =>
             have HY := Hd hy
             clear hy
             have HEN := Hd (rf_enter HV3.out.trf (k : Int) (kf : Int) (tx nm))
             rw [bs_tx, Int.toNat_natCast, Int.toNat_natCast] at HEN
             go_wp2_with fail
             refine HEN.out.mono ?_
             rintro e w5 ⟨r, rfl, hst⟩
             have HS := Hd (Stf.pre HV3.out.mo hst)
             clear hst HEN
             go_wp2
             go_ret
             refine ⟨r, rfl, HS.out.imp fun T' hT' => ?_⟩
             unfold isLink
             rw [HG.out, if_neg (fun hh => hh rfl)]
             refine ⟨q, HQ.out, ?_⟩
             rw [if_neg HKD.out, HE.out]
             simpa [HK.out, HY.out] using hT'
 · have hz1 : (r0 != 0) = true := by simpa using hz
   have HNZ := Hd hz
   clear hz
   go_enter Tryz.func62, Tryz.ntmps62
   go_wp2_with fail
   refine HF.out.mono ?_
   rintro e w1 ⟨rfl, hv⟩
   have HV1 := Hd hv
   clear hv
   go_wp2
   go_ret
   exact ⟨r0, rfl, HV1.out.keep (by unfold isLink; rw [HG.out, if_pos HNZ.out]; exact ⟨rfl, rfl⟩)⟩
theorem drename_any {w : World} {t B : Nat} {G : Gt} {T : IT.Tr} (h : Trf w t B G T) (hm : MR T) (hb : HB T 1000000) (cwd : Int) (c : Cr) (s ar : ByteArray) (hs : s.size ≤ 1048576) (ha : ar.size ≤ 1048576) :
  Calls Tryz.prog 63 #[.pointer (some ⟨t, 0, none⟩), .int .i64 cwd, cred c, .string s, .string ar] w fun e w' => ∃ r, e = .returned (.int .i64 r) ∧ Stf w t B (fun T' => isRename T c cwd (bs s) (bs ar) r T') w' := by
 have HV := Hd (DW.begin h c)
 have HM := Hd hm
 have HH := Hd hb
 obtain ⟨e0, e1, e2, e3, e4⟩ := HV.out.cells
 clear h hm hb
 unfold cred
 cases he : entryT T c cwd (bs s) with
 | error r0 =>
   have HE := Hd he
   have HP := Hd (HV.out.par_err HM.out cwd s hs he)
   have hz : (r0 != 0) = true := by simpa using entry_ne he
   clear he
   go_enter Tryz.func63, Tryz.ntmps63
   go_wp2_with fail
   refine HP.out.mono ?_
   rintro e w1 ⟨rfl, hv⟩
   have HV1 := Hd hv
   clear hv
   go_wp2
   go_ret
   exact ⟨r0, rfl, HV1.out.keep (by unfold isRename; rw [HE.out]; exact ⟨rfl, rfl⟩)⟩
 | ok x =>
   obtain ⟨k, nm, must, tg⟩ := x
   obtain ⟨m, hk, hto, _⟩ := entry_ok he
   dsimp only at hk hto
   have HE := Hd he
   have HK := Hd hk
   have HTO := Hd hto
   have HP := Hd (HV.out.par_ok HM.out cwd s hs he)
   clear he hk hto
   cases tg with
   | none =>
     go_enter Tryz.func63, Tryz.ntmps63
     go_wp2_with fail
     refine HP.out.mono ?_
     rintro e w1 ⟨rfl, hv⟩
     have HV1 := Hd hv
     have HLO := Hd (hv.look HTO.out)
     clear hv
     unfold lookV at HLO
     go_wp2_with fail
     refine HLO.out.mono ?_
     rintro e w2 ⟨rfl, rfl⟩
     go_wp2
     go_ret
     exact ⟨3, rfl, HV1.out.keep (by unfold isRename; rw [HE.out]; exact ⟨rfl, rfl⟩)⟩
   | some j =>
     obtain ⟨q, hq⟩ := look_there HV.out.trf.snd HTO.out.symm
     have HQ := Hd hq
     clear hq
     cases he2 : entryT T c cwd (bs ar) with
     | error r0 =>
       have HE2 := Hd he2
       have hz : (r0 != 0) = true := by simpa using entry_ne he2
       clear he2
       go_enter Tryz.func63, Tryz.ntmps63
       go_wp2_with fail
       refine HP.out.mono ?_
       rintro e w1 ⟨rfl, hv⟩
       have HV1 := Hd hv
       have HLO := Hd (hv.look HTO.out)
       clear hv HP HV e0 e1 e2 e3 e4
       unfold lookV at HLO
       obtain ⟨e0, e1, e2, e3, e4⟩ := HV1.out.cells
       go_wp2_with fail
       refine HLO.out.mono ?_
       rintro e w2 ⟨rfl, rfl⟩
       go_wp2_with fail
       refine (HV1.out.par_err HM.out cwd ar ha HE2.out).mono ?_
       rintro e w2 ⟨rfl, hv⟩
       have HV2 := Hd hv
       clear hv
       go_wp2
       go_ret
       exact ⟨r0, rfl, HV2.out.keep (by unfold isRename; rw [HE.out]; dsimp only; rw [HE2.out]; exact ⟨rfl, rfl⟩)⟩
     | ok y =>
       obtain ⟨k2, nm2, must2, tg2⟩ := y
       obtain ⟨n, hk2, hto2, _⟩ := entry_ok he2
       dsimp only at hk2 hto2
       have HE2 := Hd he2
       have HK2 := Hd hk2
       have HTO2 := Hd hto2
       clear he2 hk2 hto2
       have HREL : Hid (∀ r T', (if (must = true ∨ must2 = true) ∧ q.kind ≠ 1 then r = 6 ∧ T' = T
        else if mayN m c 2 = false ∨ mayN n c 2 = false then r = 4 ∧ T' = T
        else if takesB c.eff m.mode m.owner q.owner = false ∨ takesO T c n tg2 = false then r = 2 ∧ T' = T
        else IT.isMove okN T k nm k2 nm2 r T') → isRename T c cwd (bs s) (bs ar) r T') := Hd (fun r T' hh => by
         unfold isRename
         rw [HE.out]
         dsimp only
         rw [HE2.out]
         exact ⟨m, q, n, HK.out, HQ.out, HK2.out, hh⟩)
       cases hd : (q.kind == 1) <;> cases must <;> cases must2
       all_goals
        have HKD := Hd hd
        simp only [beq_iff_eq, beq_eq_false_iff_ne] at HKD
        go_enter Tryz.func63, Tryz.ntmps63
        go_wp2_with fail
        refine HP.out.mono ?_
        rintro e w1 ⟨rfl, hv⟩
        have HV1 := Hd hv
        have HLO := Hd (hv.look HTO.out)
        clear hv HP HV e0 e1 e2 e3 e4
        unfold lookV at HLO
        obtain ⟨e0, e1, e2, e3, e4⟩ := HV1.out.cells
        go_wp2_with fail
        refine HLO.out.mono ?_
        rintro e w2 ⟨rfl, rfl⟩
        go_wp2_with fail
        refine (HV1.out.par_ok HM.out cwd ar ha HE2.out).mono ?_
        rintro e w2 ⟨rfl, hv⟩
        have HV2 := Hd hv
        have HDI := Hd (hv.dir HQ.out)
        rw [hd] at HDI
        clear hv hd e0 e1 e2 e3 e4 HV1 HLO
        go_wp2_with fail
        refine HDI.out.mono ?_
        rintro e w3 ⟨rfl, rfl⟩
        obtain ⟨e0, e1, e2, e3, e4⟩ := HV2.out.cells
        go_wp2_with fail
        first
         | (go_ret
            exact ⟨_, rfl, HV2.out.keep (HREL.out _ _ (by simp [HKD.out]))⟩)
         | skip
       all_goals
        refine (HV2.out.may HM.out HK.out 2).mono ?_
        rintro e w3 ⟨rfl, hv⟩
        have HV3 := Hd hv
        clear hv HV2 HDI e0 e1 e2 e3 e4
        obtain ⟨e0, e1, e2, e3, e4⟩ := HV3.out.cells
        go_wp2_with fail
        refine (HV3.out.may HM.out HK2.out 2).mono ?_
        rintro e w4 ⟨rfl, hv⟩
        have HV4 := Hd hv
        clear hv HV3 e0 e1 e2 e3 e4
        cases hy : mayN m c 2 <;> cases hy2 : mayN n c 2
        all_goals
         have HY := Hd hy
         have HY2 := Hd hy2
         clear hy hy2
         obtain ⟨e0, e1, e2, e3, e4⟩ := HV4.out.cells
         go_wp2_with fail
         first
          | (go_ret
             exact ⟨_, rfl, HV4.out.keep (HREL.out _ _ (by simp [HKD.out, HY.out, HY2.out]))⟩)
          | skip
       all_goals
        refine (HV4.out.sticky HK.out HQ.out).mono ?_
        rintro e w5 ⟨rfl, hv⟩
        have HV5 := Hd hv
        have HLO := Hd (hv.look HTO2.out)
        clear hv HV4 e0 e1 e2 e3 e4
        unfold lookV at HLO
        go_wp2_with fail
        refine HLO.out.mono ?_
        rintro e w6 ⟨rfl, rfl⟩
        obtain ⟨e0, e1, e2, e3, e4⟩ := HV5.out.cells
        cases hy3 : takesB c.eff m.mode m.owner q.owner
        all_goals
         have HTK := Hd hy3
         clear hy3
         cases tg2
         case' some j2 =>
          obtain ⟨p, hp⟩ := look_there HV5.out.trf.snd HTO2.out.symm
          have HTOE : Hid (takesO T c n (some j2) = takesB c.eff n.mode n.owner p.owner) := Hd (by unfold takesO; dsimp only; rw [hp])
          have HPP := Hd hp
          clear hp
          go_wp2_with fail
          refine (HV5.out.sticky HK2.out HPP.out).mono ?_
          rintro e w7 ⟨rfl, hv⟩
          have HVN := Hd hv
          clear hv HLO
          cases hy4 : takesB c.eff n.mode n.owner p.owner
          all_goals
           have HTO3 := Hd (HTOE.out.trans hy4)
           clear hy4 HTOE
         case' none =>
          have HTO3 : Hid (takesO T c n none = true) := Hd rfl
          have HVN := HV5
        all_goals
         clear HV5
         go_wp2_with fail
         first
          | (go_ret
             exact ⟨_, rfl, HVN.out.keep (HREL.out _ _ (by simp [HKD.out, HY.out, HY2.out, HTK.out, HTO3.out]))⟩)
          | (have HMV := Hd (rf_move HVN.out.trf HH.out (k : Int) (k2 : Int) (tx nm) (tx nm2))
             rw [bs_tx, bs_tx, Int.toNat_natCast, Int.toNat_natCast] at HMV
             refine HMV.out.mono ?_
             rintro e w9 ⟨r, rfl, hst⟩
             have HS := Hd (Stf.pre HVN.out.mo hst)
             clear hst HMV
             go_wp2
             go_ret
             exact ⟨r, rfl, HS.out.imp fun T' hT' => HREL.out r T' (by simp only [HKD.out, HY.out, HY2.out, HTK.out, HTO3.out, ne_eq, not_true_eq_false, not_false_eq_true, and_false, false_and, or_self, if_false, Bool.true_eq_false, Bool.false_eq_true]; exact hT')⟩)
theorem open_iff {o : Ho} (h0 : 0 ≤ o.want) (h7 : o.want ≤ 7) : openB o = (((o.want == 4) || ((o.want == 2) || (o.want == 6))) && Md.rightB o.mode) := by
 unfold openB
 obtain ⟨want, make, alone, empty, fin, mode⟩ := o
 dsimp only at *
 generalize Md.rightB mode = b
 obtain rfl | rfl | rfl | rfl | rfl | rfl | rfl | rfl : want = 0 ∨ want = 1 ∨ want = 2 ∨ want = 3 ∨ want = 4 ∨ want = 5 ∨ want = 6 ∨ want = 7 := by omega
 all_goals (cases b <;> decide +kernel)
def howC (o : Ho) : Array Value := #[.int .i64 o.want, .bool o.make, .bool o.alone, .bool o.empty, .bool o.fin, .int .i64 o.mode]
theorem open_start {w : World} {t B : Nat} {G : Gt} {T : IT.Tr} (h : Trf w t B G T) (c : Cr) (o : Ho) : ∃ W, (w.alloc (.cells (credC c) 36)).alloc (.cells (howC o) 29) = W ∧ Below w.heap.size w W ∧ DW W t B G T c w.heap.size W ∧ W.heap.size = w.heap.size + 1 + 1 ∧ ∀ wr, Mo B W wr → wr.heap[w.heap.size + 1]? = some (.cells (howC o) 29 (0, 0)) := by
 have hb : Below w.heap.size w ((w.alloc (.cells (credC c) 36)).alloc (.cells (howC o) 29)) := bZ (bZ (Below.refl _ _) _) _
 have hl := h.rep.ltB
 have h1 := aQ (w.alloc (.cells (credC c) 36)) (.cells (howC o) 29)
 rw [aZ] at h1
 have hs : ((w.alloc (.cells (credC c) 36)).alloc (.cells (howC o) 29)).heap.size = w.heap.size + 1 + 1 := by rw [aZ, aZ]
 refine ⟨_, rfl, hb, ⟨Mo.refl _ _, h.below hb, ?_, by omega⟩, hs, fun wr hm => (hm.block _ (by omega) (by omega)).trans h1⟩
 rw [aP _ _ (by rw [aZ]; omega)]
 exact aQ w _
theorem dopen_bad {w : World} {t B : Nat} {G : Gt} {T : IT.Tr} (h : Trf w t B G T) (cwd : Int) (c : Cr) (s : ByteArray) (o : Ho) (h0 : 0 ≤ o.want) (h7 : o.want ≤ 7) (hmo : o.mode < 9223372036854775808) (ho : openB o = false) :
  Calls Tryz.prog 59 #[.pointer (some ⟨t, 0, none⟩), .int .i64 cwd, cred c, .string s, howV o] w fun e w' => ∃ (i : Nat) (r : Int), e = .returned (.tuple #[.int .i64 i, .int .i64 r]) ∧ Stf w t B (fun T' => isOpen T c cwd (bs s) o i r T') w' := by
 obtain ⟨W, hW, hbW, hV, hsz, hH⟩ := open_start h c o
 have HO := Hd ho
 have HV := Hd (Stf.keep h hbW (R := fun T' => isOpen T c cwd (bs s) o 0 1 T') (by unfold isOpen; rw [if_pos HO.out]; exact ⟨rfl, rfl, rfl⟩))
 have hc := hH W (Mo.refl _ _)
 have g0 : W.cell? ⟨w.heap.size + 1, 0, none⟩ = some (.int .i64 o.want) := cO hc 0
 have g5 : W.cell? ⟨w.heap.size + 1, 5, none⟩ = some (.int .i64 o.mode) := cO hc 5
 have HRI := Hd (Md.rright_any o.mode hmo W)
 rw [open_iff h0 h7] at ho
 have hcr : credC c = #[.int .i64 c.real, .int .i64 c.eff, .int .i64 c.saved, .int .i64 c.group, .int .i64 c.eg] := rfl
 have hhw : howC o = #[.int .i64 o.want, .bool o.make, .bool o.alone, .bool o.empty, .bool o.fin, .int .i64 o.mode] := rfl
 unfold cred howV
 rw [hcr, hhw] at hW
 have HWW := Hd hW
 generalize Md.rightB o.mode = b at *
 clear h hV hH hc hcr hhw hW HO hbW h0 h7 hmo
 cases q4 : (o.want == 4) <;> cases q2 : (o.want == 2) <;> cases q6 : (o.want == 6) <;> cases b <;> rw [q4, q2, q6] at ho <;> first | (exact absurd ho (by decide)) | skip
 all_goals
  clear ho
  have n4 : (o.want != 4) = !(o.want == 4) := rfl
  have n2 : (o.want != 2) = !(o.want == 2) := rfl
  have n6 : (o.want != 6) = !(o.want == 6) := rfl
  rw [q4] at n4
  rw [q2] at n2
  rw [q6] at n6
  simp only [Bool.not_true, Bool.not_false] at n4 n2 n6
  go_enter Tryz.func59, Tryz.ntmps59
  go_upto_region 1 with fail
  rw [HWW.out]
  go_wp2_with fail
  refine HRI.out.mono ?_
  rintro e w1 ⟨rfl, rfl⟩
  go_wp2
  exact bodyPost_ret (v := .tuple #[.int .i64 0, .int .i64 1]) (by simp [results, Tryz.results59, go_sem]) rfl ⟨0, 1, rfl, HV.out⟩
theorem bits_two : (bits .and .i64 4 2 != 0) = false ∧ (bits .and .i64 2 2 != 0) = true ∧ (bits .and .i64 6 2 != 0) = true := by decide +kernel
theorem hold_there {T T' : IT.Tr} {k : Nat} {b : Bool} {q : IT.Nd} (hk : T k = some q) (h : IT.isHold T k b T') : T' k = some { q with holds := q.holds + 1 } := by
 unfold IT.isHold at h
 rw [hk] at h
 rw [h.2]
 exact IT.uY _ _ _
theorem cut_there {T T' : IT.Tr} {k : Nat} {r : Int} {q : IT.Nd} (hk : T k = some q) (h : IT.isCut T k r T') : ∃ m, T' k = some m := by
 unfold IT.isCut at h
 rw [hk] at h
 dsimp only at h
 split at h
 · rw [h.2]; exact ⟨q, hk⟩
 · split at h
   · rw [h.2]; exact ⟨q, hk⟩
   · rw [h.2]; exact ⟨_, IT.uY _ _ _⟩
theorem dopen_find {w : World} {t B : Nat} {G : Gt} {T : IT.Tr} (h : Trf w t B G T) (hm : MR T) (hh : HB T 999999) (cwd : Int) (c : Cr) (s : ByteArray) (hs : s.size ≤ 1048576) (o : Ho) (hmo : o.mode < 9223372036854775808) (ho : openB o = true) (h0 : 0 ≤ o.want) (h7 : o.want ≤ 7) (hmk : o.make = false) :
  Calls Tryz.prog 59 #[.pointer (some ⟨t, 0, none⟩), .int .i64 cwd, cred c, .string s, howV o] w fun e w' => ∃ (i : Nat) (r : Int), e = .returned (.tuple #[.int .i64 i, .int .i64 r]) ∧ Stf w t B (fun T' => isOpen T c cwd (bs s) o i r T') w' := by
 obtain ⟨W, hW, hbW, hV, hsz, hH⟩ := open_start h c o
 have HO := Hd ho
 have HM := Hd hm
 have HH := Hd hh
 have HV := Hd hV
 have HBW := Hd (Mo.of (b := B) hbW)
 have hRI := Md.rright_any o.mode hmo W
 have ho2 := ho
 rw [open_iff h0 h7] at ho2
 have hcr : credC c = #[.int .i64 c.real, .int .i64 c.eff, .int .i64 c.saved, .int .i64 c.group, .int .i64 c.eg] := rfl
 obtain ⟨⟨j, r0⟩, hg⟩ : ∃ g, findT T c cwd (bs s) = g := ⟨_, rfl⟩
 have HG := Hd hg
 have HF := Hd (hV.find hm cwd s hs hg)
 have HTH : Hid (r0 = 0 → ∃ m, T j = some m) := Hd (fun e => by have := find_there (c := c) (cwd := cwd) (s := bs s) h.snd; rw [hg] at this; exact this e)
 have hx : isOpen T c cwd (bs s) o = fun i r T' => if r0 ≠ 0 then i = 0 ∧ r = r0 ∧ T' = T else isOpened T c o j i r T' := by
  funext i r T'
  unfold isOpen
  rw [if_neg (by rw [HO.out]; simp), if_neg (by rw [hmk]; simp), HG.out]
 rw [hx]
 obtain ⟨want, make, alone, empty, fin, mode⟩ := o
 dsimp only at hmk ho2 h0 h7 hmo hRI
 subst hmk
 have hr : Md.rightB mode = true := by
  cases hq : Md.rightB mode with
  | true => rfl
  | false => rw [hq, Bool.and_false] at ho2; cases ho2
 have hwant : want = 4 ∨ want = 2 ∨ want = 6 := by
  rw [hr, Bool.and_true] at ho2
  simpa using ho2
 rw [hr] at hRI
 have HRI := Hd hRI
 have HHW : Hid (∀ wr, Mo B W wr → wr.heap[w.heap.size + 1]? = some (.cells #[.int .i64 want, .bool false, .bool alone, .bool empty, .bool fin, .int .i64 mode] 29 (0, 0))) := Hd hH
 unfold cred howV
 unfold howC at hW
 rw [hcr] at hW
 have HWW := Hd hW
 have hsz2 : w.heap.size + 1 < W.heap.size := by omega
 clear h hm hh hV hbW hsz hH ho2 hRI hr hW hx hg ho h0 h7 hmo
 by_cases hz : r0 = 0
 · subst hz
   obtain ⟨q, hq⟩ := HTH.out rfl
   have HQ := Hd hq
   clear HTH hq
   simp only [ne_eq, not_true_eq_false, if_false]
   obtain ⟨my, hmy⟩ : ∃ my, mayN q c want = my := ⟨_, rfl⟩
   obtain ⟨wr2, hwr⟩ : ∃ wr2, (bits .and .i64 want 2 != 0) = wr2 := ⟨_, rfl⟩
   have HREL : Hid (∀ i r T', (if wr2 = true ∧ q.kind = 1 then i = 0 ∧ r = 7 ∧ T' = T
    else if my = false then i = 0 ∧ r = 4 ∧ T' = T
    else i = j ∧ r = 0 ∧ ∃ b T1, IT.isHold T j b T1 ∧
     if empty = true ∧ wr2 = true ∧ q.kind = 0 then ∃ r2 T2, IT.isCut T1 j r2 T2 ∧ isPlainer T2 j T' else T' = T1) → isOpened T c ⟨want, false, alone, empty, fin, mode⟩ j i r T') := Hd (fun i r T' hh => ⟨q, HQ.out, by dsimp only; rw [hwr, hmy]; exact hh⟩)
   have HMY := Hd hmy
   have hww : (want = 4 ∧ wr2 = false) ∨ (want = 2 ∧ wr2 = true) ∨ (want = 6 ∧ wr2 = true) := by
    rcases hwant with rfl | rfl | rfl
    · exact .inl ⟨rfl, hwr.symm.trans bits_two.1⟩
    · exact .inr (.inl ⟨rfl, hwr.symm.trans bits_two.2.1⟩)
    · exact .inr (.inr ⟨rfl, hwr.symm.trans bits_two.2.2⟩)
   clear hmy hwr hwant
   cases kd : (q.kind == 1) <;> obtain ⟨rfl, rfl⟩ | ⟨rfl, rfl⟩ | ⟨rfl, rfl⟩ := hww
   all_goals
    have HKD := Hd kd
    simp only [beq_iff_eq, beq_eq_false_iff_ne] at HKD
    have hc := HHW.out W (Mo.refl _ _)
    have g0 := cO hc 0
    have g1 := cO hc 1
    have g5 := cO hc 5
    obtain ⟨e0, e1, e2, e3, e4⟩ := HV.out.cells
    clear hc
    go_enter Tryz.func59, Tryz.ntmps59
    go_upto_region 1 with fail
    rw [HWW.out]
    go_wp2_with fail
    refine HRI.out.mono ?_
    rintro e w1 ⟨rfl, rfl⟩
    go_wp2_with fail
    refine HF.out.mono ?_
    rintro e w1 ⟨rfl, hv⟩
    have HV1 := Hd hv
    have hc := HHW.out w1 hv.mo
    have g0 := cO hc 0
    obtain ⟨x0, x6, x7, x8, a9, n9, c9, hkn, b, hlt, hlB, b0, b1, b2, b3, b4, b5, b6, b7, b8, b9⟩ := hv.trf.ten HQ.out
    obtain ⟨e0, e1, e2, e3, e4⟩ := hv.cells
    have hkz : (j : Int) < 201 := by omega
    clear hv hc
    go_wp2_with fail
    first
     | exact bodyPost_ret (v := .tuple #[.int .i64 0, .int .i64 7]) (by simp [results, Tryz.results59, go_sem]) rfl ⟨0, 7, rfl, Stf.pre HBW.out (HV1.out.keep (HREL.out 0 7 T (by simp [HKD.out])))⟩
     | skip
   all_goals
    refine (HV1.out.may HM.out HQ.out _).mono ?_
    rintro e w2 ⟨rfl, hv⟩
    rw [HMY.out]
    have HV2 := Hd hv
    clear hv HV1 g0 b b0 b1 b2 b3 b4 b5 b6 b7 b8 b9 e0 e1 e2 e3 e4 hlt hlB
    cases my with
    | false =>
      go_wp2
      exact bodyPost_ret (v := .tuple #[.int .i64 0, .int .i64 4]) (by simp [results, Tryz.results59, go_sem]) rfl ⟨0, 4, rfl, Stf.pre HBW.out (HV2.out.keep (HREL.out 0 4 T (by simp [HKD.out])))⟩
    | true =>
      go_wp2_with fail
      refine (rf_hold HV2.out.trf (HH.out.mono (by omega)) (j : Int)).mono ?_
      rintro e w3 ⟨bh, rfl, hst⟩
      obtain ⟨G3, T3, hv3, hr3⟩ := HV2.out.step hst fun T' hT' => hT'.sound HV2.out.trf.snd
      rw [Int.toNat_natCast] at hr3
      have HV3 := Hd hv3
      have HR3 := Hd hr3
      have HT3 := Hd (hold_there HQ.out hr3)
      have hc := HHW.out w3 hv3.mo
      have g0 := cO hc 0
      have g3 := cO hc 3
      obtain ⟨x0, x6, x7, x8, a9, n9, c9, hkn, b, hlt, hlB, b0, b1, b2, b3, b4, b5, b6, b7, b8, b9⟩ := hv3.trf.ten HT3.out
      have HM3 := Hd (HM.out.hold hr3)
      clear hst hv3 hr3 hc HV2
      cases empty <;> cases kf : (q.kind == 0)
      all_goals
       have HKF := Hd kf
       simp only [beq_iff_eq, beq_eq_false_iff_ne] at HKF
       go_wp2_with fail
       first
        | exact bodyPost_ret (v := .tuple #[.int .i64 (j : Int), .int .i64 0]) (by simp [results, Tryz.results59, go_sem]) rfl ⟨j, 0, rfl, Stf.pre HBW.out (HV3.out.keep (HREL.out j 0 T3 (by simp only [HKD.out, HKF.out, Bool.false_eq_true, false_and, and_false, if_false, Bool.true_eq_false, true_and, ne_eq, not_false_eq_true]; exact ⟨bh, T3, HR3.out, rfl⟩)))⟩
        | skip
      all_goals
       refine (rf_cut HV3.out.trf (j : Int)).mono ?_
       rintro e w4 ⟨rc, rfl, hst⟩
       obtain ⟨G4, T4, hv4, hr4⟩ := HV3.out.step hst fun T' hT' => hT'.sound HV3.out.trf.snd
       rw [Int.toNat_natCast] at hr4
       have HV4 := Hd hv4
       have HR4 := Hd hr4
       obtain ⟨m4, hm4⟩ := cut_there HT3.out hr4
       have HM4 := Hd (HM3.out.cut hr4)
       have HPL := Hd (dplainer_any hv4.trf HM4.out hm4)
       clear hst hv4 hr4 HV3 hm4 g0 g3 b b0 b1 b2 b3 b4 b5 b6 b7 b8 b9 hlt hlB
       go_wp2_with fail
       refine HPL.out.mono ?_
       rintro e w5 ⟨rfl, hst⟩
       have HS := Hd (Stf.pre HBW.out (Stf.pre HV4.out.mo hst))
       clear hst HPL
       go_wp2
       exact bodyPost_ret (v := .tuple #[.int .i64 (j : Int), .int .i64 0]) (by simp [results, Tryz.results59, go_sem]) rfl ⟨j, 0, rfl, HS.out.imp fun T' hT' => HREL.out j 0 T' (by simp only [HKD.out, HKF.out, Bool.false_eq_true, and_false, if_false, Bool.true_eq_false, and_self, if_true, true_and]; exact ⟨bh, T3, HR3.out, rc, T4, HR4.out, hT'⟩)⟩
 · have hz1 : (r0 != 0) = true := by simpa using hz
   have HNZ := Hd hz
   clear hz
   have hwv : (want != 4 && (want != 2 && want != 6)) = false := by rcases hwant with rfl | rfl | rfl <;> rfl
   obtain rfl | rfl | rfl := hwant
   all_goals
    have hc := HHW.out W (Mo.refl _ _)
    have g0 := cO hc 0
    have g1 := cO hc 1
    have g5 := cO hc 5
    obtain ⟨e0, e1, e2, e3, e4⟩ := HV.out.cells
    clear hc hwv
    go_enter Tryz.func59, Tryz.ntmps59
    go_upto_region 1 with fail
    rw [HWW.out]
    go_wp2_with fail
    refine HRI.out.mono ?_
    rintro e w1 ⟨rfl, rfl⟩
    go_wp2_with fail
    refine HF.out.mono ?_
    rintro e w1 ⟨rfl, hv⟩
    have HV1 := Hd hv
    clear hv
    go_wp2
    exact bodyPost_ret (v := .tuple #[.int .i64 0, .int .i64 r0]) (by simp [results, Tryz.results59, go_sem]) rfl ⟨0, r0, rfl, Stf.pre HBW.out (HV1.out.keep (by simp [HNZ.out]))⟩
def openM (T : IT.Tr) (c : Cr) (o : Ho) (E : Except Int Ent) (i : Nat) (r : Int) (T' : IT.Tr) : Prop := match E with
 | .error e => i = 0 ∧ r = e ∧ T' = T
 | .ok x => match x.tg with
   | none => if x.must = true then i = 0 ∧ r = 7 ∧ T' = T else ∃ m, T x.dir = some m ∧ isMakes (mayN m c 2) T c x.dir x.name 0 o.mode i r T'
   | some j => if o.alone = true then i = 0 ∧ r = 5 ∧ T' = T
     else if x.must = true ∧ (∀ q, T j = some q → q.kind ≠ 1) then i = 0 ∧ r = 6 ∧ T' = T
     else isOpened T c o j i r T'
theorem open_make {T : IT.Tr} {c : Cr} {cwd : Int} {s : IT.Bytes} {o : Ho} (ho : openB o = true) (hm : o.make = true) : isOpen T c cwd s o = openM T c o (entryT T c cwd s) := by
 funext i r T'
 unfold isOpen openM
 rw [if_neg (by rw [ho]; simp), if_pos hm]
 rfl
theorem openM_tail {T T' : IT.Tr} {c : Cr} {k j : Nat} {nm : IT.Bytes} {must : Bool} {i : Nat} {r : Int} (h6 : ¬ (must = true ∧ ∀ q, T j = some q → q.kind ≠ 1)) {want : Int} {empty fin : Bool} {mode : Int} (h : isOpened T c ⟨want, true, false, empty, fin, mode⟩ j i r T') : openM T c ⟨want, true, false, empty, fin, mode⟩ (.ok ⟨k, nm, must, some j⟩) i r T' := by
 unfold openM
 dsimp only
 rw [if_neg (by simp), if_neg h6]
 exact h
theorem dopen_make {w : World} {t B : Nat} {G : Gt} {T : IT.Tr} (h : Trf w t B G T) (hm : MR T) (hh : HB T 999999) (cwd : Int) (c : Cr) (s : ByteArray) (hs : s.size ≤ 1048576) (o : Ho) (hmo : o.mode < 9223372036854775808) (ho : openB o = true) (h0 : 0 ≤ o.want) (h7 : o.want ≤ 7) (hmk : o.make = true) :
  Calls Tryz.prog 59 #[.pointer (some ⟨t, 0, none⟩), .int .i64 cwd, cred c, .string s, howV o] w fun e w' => ∃ (i : Nat) (r : Int), e = .returned (.tuple #[.int .i64 i, .int .i64 r]) ∧ Stf w t B (fun T' => isOpen T c cwd (bs s) o i r T') w' := by
 obtain ⟨W, hW, hbW, hV, hsz, hH⟩ := open_start h c o
 have HO := Hd ho
 have HM := Hd hm
 have HH := Hd hh
 have HV := Hd hV
 have HMO := Hd hmo
 have HBW := Hd (Mo.of (b := B) hbW)
 have hRI := Md.rright_any o.mode hmo W
 have ho2 := ho
 rw [open_iff h0 h7] at ho2
 have hcr : credC c = #[.int .i64 c.real, .int .i64 c.eff, .int .i64 c.saved, .int .i64 c.group, .int .i64 c.eg] := rfl
 obtain ⟨E, hE⟩ : ∃ E, entryT T c cwd (bs s) = E := ⟨_, rfl⟩
 have HE := Hd hE
 have hx := open_make (T := T) (c := c) (cwd := cwd) (s := bs s) ho hmk
 rw [hx, hE]
 obtain ⟨want, make, alone, empty, fin, mode⟩ := o
 dsimp only at hmk ho2 h0 h7 hmo hRI HMO ⊢
 subst hmk
 have hr : Md.rightB mode = true := by
  cases hq : Md.rightB mode with
  | true => rfl
  | false => rw [hq, Bool.and_false] at ho2; cases ho2
 have hwant : want = 4 ∨ want = 2 ∨ want = 6 := by
  rw [hr, Bool.and_true] at ho2
  simpa using ho2
 rw [hr] at hRI
 have HRI := Hd hRI
 have HHW : Hid (∀ wr, Mo B W wr → wr.heap[w.heap.size + 1]? = some (.cells #[.int .i64 want, .bool true, .bool alone, .bool empty, .bool fin, .int .i64 mode] 29 (0, 0))) := Hd hH
 unfold cred howV
 unfold howC at hW
 rw [hcr] at hW
 have HWW := Hd hW
 have hsz2 : w.heap.size + 1 < W.heap.size := by omega
 clear h hm hh hV hbW hsz hH ho2 hRI hr hW hx ho h0 h7 hmo hE
 cases E with
 | error r0 =>
   have HP := Hd (HV.out.par_err HM.out cwd s hs HE.out)
   have hz : (r0 != 0) = true := by simpa using entry_ne HE.out
   obtain rfl | rfl | rfl := hwant
   all_goals
    have hc := HHW.out W (Mo.refl _ _)
    have g0 := cO hc 0
    have g1 := cO hc 1
    have g5 := cO hc 5
    obtain ⟨e0, e1, e2, e3, e4⟩ := HV.out.cells
    clear hc
    go_enter Tryz.func59, Tryz.ntmps59
    go_upto_region 1 with fail
    rw [HWW.out]
    go_wp2_with fail
    refine HRI.out.mono ?_
    rintro e w1 ⟨rfl, rfl⟩
    go_wp2_with fail
    refine HP.out.mono ?_
    rintro e w1 ⟨rfl, hv⟩
    have HV1 := Hd hv
    clear hv
    go_wp2
    exact bodyPost_ret (v := .tuple #[.int .i64 0, .int .i64 r0]) (by simp [results, Tryz.results59, go_sem]) rfl ⟨0, r0, rfl, Stf.pre HBW.out (HV1.out.keep ⟨rfl, rfl, rfl⟩)⟩
 | ok x =>
   obtain ⟨k, nm, must, tg⟩ := x
   obtain ⟨m, hk, hto, _⟩ := entry_ok HE.out
   dsimp only at hk hto
   have HK := Hd hk
   have HTO := Hd hto
   have HP := Hd (HV.out.par_ok HM.out cwd s hs HE.out)
   clear hk hto
   cases tg with
   | none =>
     cases must <;> obtain rfl | rfl | rfl := hwant
     all_goals
      have hc := HHW.out W (Mo.refl _ _)
      have g0 := cO hc 0
      have g1 := cO hc 1
      have g5 := cO hc 5
      obtain ⟨e0, e1, e2, e3, e4⟩ := HV.out.cells
      clear hc
      go_enter Tryz.func59, Tryz.ntmps59
      go_upto_region 1 with fail
      rw [HWW.out]
      go_wp2_with fail
      refine HRI.out.mono ?_
      rintro e w1 ⟨rfl, rfl⟩
      go_wp2_with fail
      refine HP.out.mono ?_
      rintro e w1 ⟨rfl, hv⟩
      have HV1 := Hd hv
      have HLO := Hd (hv.look HTO.out)
      unfold lookV at HLO
      have hc := HHW.out w1 hv.mo
      have g5 := cO hc 5
      obtain ⟨e0, e1, e2, e3, e4⟩ := hv.cells
      clear hv hc HP
      go_wp2_with fail
      refine HLO.out.mono ?_
      rintro e w2 ⟨rfl, rfl⟩
      go_wp2_with fail
      first
       | exact bodyPost_ret (v := .tuple #[.int .i64 0, .int .i64 7]) (by simp [results, Tryz.results59, go_sem]) rfl ⟨0, 7, rfl, Stf.pre HBW.out (HV1.out.keep (by unfold openM; dsimp only; rw [if_pos rfl]; exact ⟨rfl, rfl, rfl⟩))⟩
       | (have HMK := Hd (dmakes_any HV1.out.trf HM.out (HH.out.mono (by omega)) c HK.out (tx nm) 0 mode HMO.out)
          rw [bs_tx] at HMK
          unfold cred at HMK
          refine HMK.out.mono ?_
          rintro e w3 ⟨i1, r1, rfl, hst⟩
          have HS := Hd (Stf.pre HBW.out (Stf.pre HV1.out.mo hst))
          clear hst HMK
          go_wp2
          exact bodyPost_ret (v := .tuple #[.int .i64 (i1 : Int), .int .i64 r1]) (by simp [results, Tryz.results59, go_sem]) rfl ⟨i1, r1, rfl, HS.out.imp fun T' hT' => by unfold openM; dsimp only; rw [if_neg (by simp)]; exact ⟨m, HK.out, hT'⟩⟩)
   | some j =>
     obtain ⟨q, hq⟩ := look_there HV.out.trf.snd HTO.out.symm
     have HQ := Hd hq
     clear hq
     dsimp only
     cases alone with
     | true =>
       obtain rfl | rfl | rfl := hwant
       all_goals
        have hc := HHW.out W (Mo.refl _ _)
        have g0 := cO hc 0
        have g1 := cO hc 1
        have g5 := cO hc 5
        obtain ⟨e0, e1, e2, e3, e4⟩ := HV.out.cells
        clear hc
        go_enter Tryz.func59, Tryz.ntmps59
        go_upto_region 1 with fail
        rw [HWW.out]
        go_wp2_with fail
        refine HRI.out.mono ?_
        rintro e w1 ⟨rfl, rfl⟩
        go_wp2_with fail
        refine HP.out.mono ?_
        rintro e w1 ⟨rfl, hv⟩
        have HV1 := Hd hv
        have HLO := Hd (hv.look HTO.out)
        unfold lookV at HLO
        have hc := HHW.out w1 hv.mo
        have g2 := cO hc 2
        clear hv hc HP
        go_wp2_with fail
        refine HLO.out.mono ?_
        rintro e w2 ⟨rfl, rfl⟩
        go_wp2
        exact bodyPost_ret (v := .tuple #[.int .i64 0, .int .i64 5]) (by simp [results, Tryz.results59, go_sem]) rfl ⟨0, 5, rfl, Stf.pre HBW.out (HV1.out.keep (by unfold openM; dsimp only; rw [if_pos rfl]; exact ⟨rfl, rfl, rfl⟩))⟩
     | false =>
       cases must <;> cases kd : (q.kind == 1)
       case' true.false =>
        have HKD := Hd kd
        simp only [beq_eq_false_iff_ne] at HKD
        have HFI : Hid (openM T c ⟨want, true, false, empty, fin, mode⟩ (.ok ⟨k, nm, true, some j⟩) 0 6 T) := Hd (by
         unfold openM
         dsimp only
         rw [if_neg (by simp), if_pos ⟨rfl, fun q2 hq2 => by rw [← oI (HQ.out.symm.trans hq2)]; exact HKD.out⟩]
         exact ⟨rfl, rfl, rfl⟩)
        obtain rfl | rfl | rfl := hwant
        all_goals
         have hc := HHW.out W (Mo.refl _ _)
         have g0 := cO hc 0
         have g1 := cO hc 1
         have g5 := cO hc 5
         obtain ⟨e0, e1, e2, e3, e4⟩ := HV.out.cells
         clear hc
         go_enter Tryz.func59, Tryz.ntmps59
         go_upto_region 1 with fail
         rw [HWW.out]
         go_wp2_with fail
         refine HRI.out.mono ?_
         rintro e w1 ⟨rfl, rfl⟩
         go_wp2_with fail
         refine HP.out.mono ?_
         rintro e w1 ⟨rfl, hv⟩
         have HV1 := Hd hv
         have HLO := Hd (hv.look HTO.out)
         unfold lookV at HLO
         have HDI := Hd (hv.dir HQ.out)
         rw [kd] at HDI
         have hc := HHW.out w1 hv.mo
         have g2 := cO hc 2
         clear hv hc HP
         go_wp2_with fail
         refine HLO.out.mono ?_
         rintro e w2 ⟨rfl, rfl⟩
         go_wp2_with fail
         refine HDI.out.mono ?_
         rintro e w2 ⟨rfl, rfl⟩
         go_wp2
         exact bodyPost_ret (v := .tuple #[.int .i64 0, .int .i64 6]) (by simp [results, Tryz.results59, go_sem]) rfl ⟨0, 6, rfl, Stf.pre HBW.out (HV1.out.keep HFI.out)⟩
       case' false.false => have HG6 : Hid (¬ (false = true ∧ ∀ q, T j = some q → q.kind ≠ 1)) := Hd (by simp)
       case' false.true => have HG6 : Hid (¬ (false = true ∧ ∀ q, T j = some q → q.kind ≠ 1)) := Hd (by simp)
       case' true.true => have HG6 : Hid (¬ (true = true ∧ ∀ q, T j = some q → q.kind ≠ 1)) := Hd (fun hh => hh.2 q HQ.out (by simpa using kd))
       all_goals
        obtain ⟨my, hmy⟩ : ∃ my, mayN q c want = my := ⟨_, rfl⟩
        obtain ⟨wr2, hwr⟩ : ∃ wr2, (bits .and .i64 want 2 != 0) = wr2 := ⟨_, rfl⟩
        have HREL0 : Hid (∀ i r T', (if wr2 = true ∧ q.kind = 1 then i = 0 ∧ r = 7 ∧ T' = T
         else if my = false then i = 0 ∧ r = 4 ∧ T' = T
         else i = j ∧ r = 0 ∧ ∃ b T1, IT.isHold T j b T1 ∧
          if empty = true ∧ wr2 = true ∧ q.kind = 0 then ∃ r2 T2, IT.isCut T1 j r2 T2 ∧ isPlainer T2 j T' else T' = T1) → isOpened T c ⟨want, true, false, empty, fin, mode⟩ j i r T') := Hd (fun i r T' hh => ⟨q, HQ.out, by dsimp only; rw [hwr, hmy]; exact hh⟩)
        have HREL := Hd (fun i r T' hh => openM_tail HG6.out (HREL0.out i r T' hh) (k := k) (nm := nm))
        have HMY := Hd hmy
        have hww : (want = 4 ∧ wr2 = false) ∨ (want = 2 ∧ wr2 = true) ∨ (want = 6 ∧ wr2 = true) := by
         rcases hwant with rfl | rfl | rfl
         · exact .inl ⟨rfl, hwr.symm.trans bits_two.1⟩
         · exact .inr (.inl ⟨rfl, hwr.symm.trans bits_two.2.1⟩)
         · exact .inr (.inr ⟨rfl, hwr.symm.trans bits_two.2.2⟩)
        clear hmy hwr hwant HREL0 HG6
        obtain ⟨rfl, rfl⟩ | ⟨rfl, rfl⟩ | ⟨rfl, rfl⟩ := hww
       all_goals
        have HKD := Hd kd
        simp only [beq_iff_eq, beq_eq_false_iff_ne] at HKD
        have hc := HHW.out W (Mo.refl _ _)
        have g0 := cO hc 0
        have g1 := cO hc 1
        have g5 := cO hc 5
        obtain ⟨e0, e1, e2, e3, e4⟩ := HV.out.cells
        clear hc
        go_enter Tryz.func59, Tryz.ntmps59
        go_upto_region 1 with fail
        rw [HWW.out]
        go_wp2_with fail
        refine HRI.out.mono ?_
        rintro e w1 ⟨rfl, rfl⟩
        go_wp2_with fail
        refine HP.out.mono ?_
        rintro e w1 ⟨rfl, hv⟩
        have HVL := Hd hv
        have HLO := Hd (hv.look HTO.out)
        unfold lookV at HLO
        have HDI := Hd (hv.dir HQ.out)
        rw [kd] at HDI
        have hc := HHW.out w1 hv.mo
        have g2 := cO hc 2
        clear hv hc HP g0 g1 g5 e0 e1 e2 e3 e4
        go_wp2_with fail
        refine HLO.out.mono ?_
        rintro e w2 ⟨rfl, rfl⟩
        go_wp2_with fail
        refine HDI.out.mono ?_
        rintro e w2 ⟨rfl, rfl⟩
        have hv := HVL.out
        clear HLO HDI HVL g2
        have HV1 := Hd hv
        have hc := HHW.out w1 hv.mo
        have g0 := cO hc 0
        obtain ⟨x0, x6, x7, x8, a9, n9, c9, hkn, b, hlt, hlB, b0, b1, b2, b3, b4, b5, b6, b7, b8, b9⟩ := hv.trf.ten HQ.out
        obtain ⟨e0, e1, e2, e3, e4⟩ := hv.cells
        have hkz : (j : Int) < 201 := by omega
        clear hv hc
        go_wp2_with fail
        first
         | exact bodyPost_ret (v := .tuple #[.int .i64 0, .int .i64 7]) (by simp [results, Tryz.results59, go_sem]) rfl ⟨0, 7, rfl, Stf.pre HBW.out (HV1.out.keep (HREL.out 0 7 T (by simp [HKD.out])))⟩
         | skip
       all_goals
        refine (HV1.out.may HM.out HQ.out _).mono ?_
        rintro e w2 ⟨rfl, hv⟩
        rw [HMY.out]
        have HV2 := Hd hv
        clear hv HV1 g0 b b0 b1 b2 b3 b4 b5 b6 b7 b8 b9 e0 e1 e2 e3 e4 hlt hlB
        cases my with
        | false =>
          go_wp2
          exact bodyPost_ret (v := .tuple #[.int .i64 0, .int .i64 4]) (by simp [results, Tryz.results59, go_sem]) rfl ⟨0, 4, rfl, Stf.pre HBW.out (HV2.out.keep (HREL.out 0 4 T (by simp [HKD.out])))⟩
        | true =>
          go_wp2_with fail
          refine (rf_hold HV2.out.trf (HH.out.mono (by omega)) (j : Int)).mono ?_
          rintro e w3 ⟨bh, rfl, hst⟩
          obtain ⟨G3, T3, hv3, hr3⟩ := HV2.out.step hst fun T' hT' => hT'.sound HV2.out.trf.snd
          rw [Int.toNat_natCast] at hr3
          have HV3 := Hd hv3
          have HR3 := Hd hr3
          have HT3 := Hd (hold_there HQ.out hr3)
          have hc := HHW.out w3 hv3.mo
          have g0 := cO hc 0
          have g3 := cO hc 3
          obtain ⟨x0, x6, x7, x8, a9, n9, c9, hkn, b, hlt, hlB, b0, b1, b2, b3, b4, b5, b6, b7, b8, b9⟩ := hv3.trf.ten HT3.out
          have HM3 := Hd (HM.out.hold hr3)
          clear hst hv3 hr3 hc HV2
          cases empty <;> cases kf : (q.kind == 0)
          all_goals
           have HKF := Hd kf
           simp only [beq_iff_eq, beq_eq_false_iff_ne] at HKF
           go_wp2_with fail
           first
            | exact bodyPost_ret (v := .tuple #[.int .i64 (j : Int), .int .i64 0]) (by simp [results, Tryz.results59, go_sem]) rfl ⟨j, 0, rfl, Stf.pre HBW.out (HV3.out.keep (HREL.out j 0 T3 (by simp only [HKD.out, HKF.out, Bool.false_eq_true, false_and, and_false, if_false, Bool.true_eq_false, true_and, ne_eq, not_false_eq_true]; exact ⟨bh, T3, HR3.out, rfl⟩)))⟩
            | skip
          all_goals
           refine (rf_cut HV3.out.trf (j : Int)).mono ?_
           rintro e w4 ⟨rc, rfl, hst⟩
           obtain ⟨G4, T4, hv4, hr4⟩ := HV3.out.step hst fun T' hT' => hT'.sound HV3.out.trf.snd
           rw [Int.toNat_natCast] at hr4
           have HV4 := Hd hv4
           have HR4 := Hd hr4
           obtain ⟨m4, hm4⟩ := cut_there HT3.out hr4
           have HM4 := Hd (HM3.out.cut hr4)
           have HPL := Hd (dplainer_any hv4.trf HM4.out hm4)
           clear hst hv4 hr4 HV3 hm4 g0 g3 b b0 b1 b2 b3 b4 b5 b6 b7 b8 b9 hlt hlB
           go_wp2_with fail
           refine HPL.out.mono ?_
           rintro e w5 ⟨rfl, hst⟩
           have HS := Hd (Stf.pre HBW.out (Stf.pre HV4.out.mo hst))
           clear hst HPL
           go_wp2
           exact bodyPost_ret (v := .tuple #[.int .i64 (j : Int), .int .i64 0]) (by simp [results, Tryz.results59, go_sem]) rfl ⟨j, 0, rfl, HS.out.imp fun T' hT' => HREL.out j 0 T' (by simp only [HKD.out, HKF.out, Bool.false_eq_true, and_false, if_false, Bool.true_eq_false, and_self, if_true, true_and]; exact ⟨bh, T3, HR3.out, rc, T4, HR4.out, hT'⟩)⟩
theorem dopen_any {w : World} {t B : Nat} {G : Gt} {T : IT.Tr} (h : Trf w t B G T) (hm : MR T) (hh : HB T 999999) (cwd : Int) (c : Cr) (s : ByteArray) (hs : s.size ≤ 1048576) (o : Ho) (hmo : o.mode < 9223372036854775808) (h0 : 0 ≤ o.want) (h7 : o.want ≤ 7) :
  Calls Tryz.prog 59 #[.pointer (some ⟨t, 0, none⟩), .int .i64 cwd, cred c, .string s, howV o] w fun e w' => ∃ (i : Nat) (r : Int), e = .returned (.tuple #[.int .i64 i, .int .i64 r]) ∧ Stf w t B (fun T' => isOpen T c cwd (bs s) o i r T') w' := by
 cases ho : openB o with
 | false => exact dopen_bad h cwd c s o h0 h7 hmo ho
 | true =>
   cases hk : o.make with
   | false => exact dopen_find h hm hh cwd c s hs o hmo ho h0 h7 hk
   | true => exact dopen_make h hm hh cwd c s hs o hmo ho h0 h7 hk
end Go.Proofs.YtafonmnfeibaiaaGreat.RF
namespace Go.Proofs.YtafonmnfeibaiaaGreat
open Go.RowKit
def op7 (K cwd uid gid : Int) (s u : ByteArray) (mo N oa ob : Int) : Array Value := #[.int .i64 K, .int .i64 cwd, .int .i64 uid, .int .i64 gid, .string s, .string u, .int .i64 mo, .int .i64 N, .int .i64 oa, .int .i64 ob]
def O7 (W : World) (b5 b6 : Nat) (K cwd uid gid : Int) (s u : ByteArray) (mo N oa ob : Int) : Prop := W.heap[b5]? = some (.cells (op7 K cwd uid gid s u mo N oa ob) 24 (0, 0)) ∧ W.heap[b6]? = some (.cells #[.int .i64 uid, .int .i64 uid, .int .i64 uid, .int .i64 gid, .int .i64 gid] 36 (0, 0))
theorem O7.cells {W : World} {b5 b6 : Nat} {K cwd uid gid : Int} {s u : ByteArray} {mo N oa ob : Int} (h : O7 W b5 b6 K cwd uid gid s u mo N oa ob) : W.cell? ⟨b5, 0, none⟩ = some (.int .i64 K) ∧ W.cell? ⟨b5, 1, none⟩ = some (.int .i64 cwd) ∧ W.cell? ⟨b5, 2, none⟩ = some (.int .i64 uid) ∧ W.cell? ⟨b5, 3, none⟩ = some (.int .i64 gid) ∧ W.cell? ⟨b5, 4, none⟩ = some (.string s) ∧ W.cell? ⟨b5, 5, none⟩ = some (.string u) ∧ W.cell? ⟨b5, 6, none⟩ = some (.int .i64 mo) ∧ W.cell? ⟨b5, 7, none⟩ = some (.int .i64 N) ∧ W.cell? ⟨b5, 8, none⟩ = some (.int .i64 oa) ∧ W.cell? ⟨b5, 9, none⟩ = some (.int .i64 ob) ∧ W.cell? ⟨b6, 0, none⟩ = some (.int .i64 uid) ∧ W.cell? ⟨b6, 1, none⟩ = some (.int .i64 uid) ∧ W.cell? ⟨b6, 2, none⟩ = some (.int .i64 uid) ∧ W.cell? ⟨b6, 3, none⟩ = some (.int .i64 gid) ∧ W.cell? ⟨b6, 4, none⟩ = some (.int .i64 gid) :=
 ⟨cO h.1 0, cO h.1 1, cO h.1 2, cO h.1 3, cO h.1 4, cO h.1 5, cO h.1 6, cO h.1 7, cO h.1 8, cO h.1 9, cO h.2 0, cO h.2 1, cO h.2 2, cO h.2 3, cO h.2 4⟩
theorem O7.lay {W W' : World} {b5 b6 : Nat} {K cwd uid gid : Int} {s u : ByteArray} {mo N oa ob : Int} (h : O7 W b5 b6 K cwd uid gid s u mo N oa ob) (hl : Lay W W') : O7 W' b5 b6 K cwd uid gid s u mo N oa ob :=
 ⟨hl.2 _ _ _ _ h.1 (by decide) (by decide) (by decide), hl.2 _ _ _ _ h.2 (by decide) (by decide) (by decide)⟩
def Did7 (n0 : Nat) (w0 w : World) (t r B n : Nat) (w' : World) : Prop := ∃ S' T' G', Duo n0 w0 w' t S' T' r B G' T' ∧ HB T' (n + 1) ∧ MR T' ∧ Lay w w'
theorem does7_start {n0 : Nat} {w0 w : World} {t : Nat} {S : Tab} {T : IT.Tr} {r B : Nat} {G : RF.Gt} (h : Duo n0 w0 w t S T r B G T) (K cwd uid gid : Int) (s u : ByteArray) (mo N oa ob : Int) {w1 : World} (hb : Below (w.alloc (.cells (op7 K cwd uid gid s u mo N oa ob) 24)).heap.size (w.alloc (.cells (op7 K cwd uid gid s u mo N oa ob) 24)) w1) :
  Duo n0 w0 (w1.alloc (.cells #[.int .i64 uid, .int .i64 uid, .int .i64 uid, .int .i64 gid, .int .i64 gid] 36)) t S T r B G T ∧ O7 (w1.alloc (.cells #[.int .i64 uid, .int .i64 uid, .int .i64 uid, .int .i64 gid, .int .i64 gid] 36)) w.heap.size w1.heap.size K cwd uid gid s u mo N oa ob ∧ Lay w (w1.alloc (.cells #[.int .i64 uid, .int .i64 uid, .int .i64 uid, .int .i64 gid, .int .i64 gid] 36)) := by
 have hb1 := one_below hb
 have hb2 := bZ hb1 (.cells #[.int .i64 uid, .int .i64 uid, .int .i64 uid, .int .i64 gid, .int .i64 gid] 36)
 refine ⟨h.below hb2, ⟨?_, aQ _ _⟩, Lay.below hb2⟩
 have h1 := (hb.block w.heap.size (by rw [aZ]; omega)).trans (aQ w _)
 exact (aP _ _ (lH h1)).trans h1
theorem does7_mkdir {n0 : Nat} {w0 w : World} {t : Nat} {S : Tab} {T : IT.Tr} {r B : Nat} {G : RF.Gt} (h : Duo n0 w0 w t S T r B G T) {n : Nat} (hn : n ≤ 999990) (hn1 : 1 ≤ n) (hb : HB T n) (hm : MR T) (cwd uid gid : Int) (s u : ByteArray) (mo N oa ob : Int) (hsz : s.size ≤ 1048576) (hmo : mo < 9223372036854775808) :
  Calls Tryz.prog 30 #[.pointer (some ⟨t, 0, none⟩), .pointer (some ⟨r, 0, none⟩), .agg #[.int .i64 4, .int .i64 cwd, .int .i64 uid, .int .i64 gid, .string s, .string u, .int .i64 mo, .int .i64 N, .int .i64 oa, .int .i64 ob]] w fun e w' => e = .returned (.bool true) ∧ Did7 n0 w0 w t r B n w' := by
 have HX := Hd (hb.mono (show n ≤ 999999 by omega))
 have HXX := Hd (hb.mono (show n ≤ 1000000 by omega))
 have HB0 := Hd hb
 have HM := Hd hm
 have HST := Hd (fun w1 hbb => does7_start h 4 cwd uid gid s u mo N oa ob (w1 := w1) hbb)
 have hop : op7 4 cwd uid gid s u mo N oa ob = #[.int .i64 4, .int .i64 cwd, .int .i64 uid, .int .i64 gid, .string s, .string u, .int .i64 mo, .int .i64 N, .int .i64 oa, .int .i64 ob] := rfl
 rw [hop] at HST
 clear h hb hm hop
 go_enter Tryz.func30, Tryz.ntmps30
 go_wp2_with fail
 refine (who_any uid gid _).mono ?_
 rintro e w1 ⟨rfl, hbb⟩
 obtain ⟨hd, ho, hl⟩ := HST.out w1 hbb
 unfold cred whoC
 dsimp only
 go_upto_region 2 with fail
 generalize w1.alloc (.cells #[.int .i64 uid, .int .i64 uid, .int .i64 uid, .int .i64 gid, .int .i64 gid] 36) = W at *
 obtain ⟨b5, hb5⟩ : ∃ b5, w.heap.size = b5 := ⟨_, rfl⟩
 obtain ⟨b6, hb6⟩ : ∃ b6, w1.heap.size = b6 := ⟨_, rfl⟩
 rw [hb5, hb6] at ho
 rw [hb5, hb6]
 have HD := Hd hd
 have HO := Hd ho
 have HL := Hd hl
 clear hd ho hl hbb HST hb5 hb6
 obtain ⟨o0, o1, o2, o3, o4, o5, o6, o7, o8, o9, c0, c1, c2, c3, c4⟩ := HO.out.cells
 have KP : ∀ W' : World, O7 W' b5 b6 4 cwd uid gid s u mo N oa ob → (W'.cell? ⟨b5, 0, none⟩ = some (.int .i64 4) ∧ W'.cell? ⟨b5, 1, none⟩ = some (.int .i64 cwd) ∧ W'.cell? ⟨b5, 2, none⟩ = some (.int .i64 uid) ∧ W'.cell? ⟨b5, 3, none⟩ = some (.int .i64 gid) ∧ W'.cell? ⟨b5, 4, none⟩ = some (.string s) ∧ W'.cell? ⟨b5, 5, none⟩ = some (.string u) ∧ W'.cell? ⟨b5, 6, none⟩ = some (.int .i64 mo) ∧ W'.cell? ⟨b5, 7, none⟩ = some (.int .i64 N) ∧ W'.cell? ⟨b5, 8, none⟩ = some (.int .i64 oa) ∧ W'.cell? ⟨b5, 9, none⟩ = some (.int .i64 ob) ∧ W'.cell? ⟨b6, 0, none⟩ = some (.int .i64 uid) ∧ W'.cell? ⟨b6, 1, none⟩ = some (.int .i64 uid) ∧ W'.cell? ⟨b6, 2, none⟩ = some (.int .i64 uid) ∧ W'.cell? ⟨b6, 3, none⟩ = some (.int .i64 gid) ∧ W'.cell? ⟨b6, 4, none⟩ = some (.int .i64 gid)) := fun W' hh => hh.cells
 go_wp2_with fail
 go_region_held3 (fun W' => W'.cell? ⟨b5, 0, none⟩ = some (.int .i64 4) ∧ W'.cell? ⟨b5, 1, none⟩ = some (.int .i64 cwd) ∧ W'.cell? ⟨b5, 2, none⟩ = some (.int .i64 uid) ∧ W'.cell? ⟨b5, 3, none⟩ = some (.int .i64 gid) ∧ W'.cell? ⟨b5, 4, none⟩ = some (.string s) ∧ W'.cell? ⟨b5, 5, none⟩ = some (.string u) ∧ W'.cell? ⟨b5, 6, none⟩ = some (.int .i64 mo) ∧ W'.cell? ⟨b5, 7, none⟩ = some (.int .i64 N) ∧ W'.cell? ⟨b5, 8, none⟩ = some (.int .i64 oa) ∧ W'.cell? ⟨b5, 9, none⟩ = some (.int .i64 ob) ∧ W'.cell? ⟨b6, 0, none⟩ = some (.int .i64 uid) ∧ W'.cell? ⟨b6, 1, none⟩ = some (.int .i64 uid) ∧ W'.cell? ⟨b6, 2, none⟩ = some (.int .i64 uid) ∧ W'.cell? ⟨b6, 3, none⟩ = some (.int .i64 gid) ∧ W'.cell? ⟨b6, 4, none⟩ = some (.int .i64 gid))
  (first | (refine KP _ ?_; first | with_reducible exact HO.out | exact ho2 | exact ho1 | exact HO.out))
  (first
    | (go_at_call 22; refine (walkMkdir_any (HD.out.below (Below.refl _ _).drew).a.tre HX.out cwd (whoC uid gid) s mo).mono ?_; rintro e w2 ⟨p, rfl, hs⟩; obtain ⟨S1, T1, hd1, hr1, hl1⟩ := (HD.out.below (Below.refl _ _).drew).stp hs (fun _ hh => isMkdir.sound hh (HD.out.below (Below.refl _ _).drew).a.snd); have ho1 := HO.out.lay ((Lay.below (Below.refl _ _).drew).trans hl1))
    | (go_at_call 60; refine (RF.dmkdir_any hd1.b HM.out HX.out cwd (whoC uid gid) s hsz mo hmo).mono ?_; rintro e w3 ⟨q, rfl, hs2⟩; obtain ⟨G1, T3, hd2, hr2, hl2⟩ := hd1.stf hs2 (fun _ hh => isMkdir.sound hh hd1.b.snd); have ho2 := ho1.lay hl2)
    | (go_at_call 60; refine (RF.dmkdir_any (HD.out.below (Below.refl _ _).drew).b HM.out HX.out cwd (whoC uid gid) s hsz mo hmo).mono ?_; rintro e w2 ⟨q, rfl, hs⟩; obtain ⟨G1, T3, hd1, hr2, hl1⟩ := (HD.out.below (Below.refl _ _).drew).stf hs (fun _ hh => isMkdir.sound hh (HD.out.below (Below.refl _ _).drew).b.snd); have ho1 := HO.out.lay ((Lay.below (Below.refl _ _).drew).trans hl1))
    | (go_at_call 22; refine (walkMkdir_any hd1.a.tre HX.out cwd (whoC uid gid) s mo).mono ?_; rintro e w3 ⟨p, rfl, hs2⟩; obtain ⟨S1, T1, hd2, hr1, hl2⟩ := hd1.stp hs2 (fun _ hh => isMkdir.sound hh hd1.a.snd); have ho2 := ho1.lay hl2))
 all_goals
  obtain ⟨hpq, hT⟩ := isMkdir.one hr1 hr2
  subst hpq hT
  have hfin : Hid (Did7 n0 w0 w t r B n w3) := Hd ⟨S1, T1, G1, hd2, (HB0.out.mkdir hn1 hr1).mono (Nat.le_succ n), HM.out.mkdir hr1, HL.out.trans ((Lay.below (Below.refl _ _).drew).trans (hl1.trans hl2))⟩
  have hpp : (p == p) = true := by simp
  clear hd1 hd2 hr1 hr2 hl1 hl2 ho1 ho2
  go_wp2
  go_ret
  exact ⟨by show Ending.returned (.bool (p == p)) = _; rw [hpp], hfin.out⟩
theorem does7_remove {n0 : Nat} {w0 w : World} {t : Nat} {S : Tab} {T : IT.Tr} {r B : Nat} {G : RF.Gt} (h : Duo n0 w0 w t S T r B G T) {n : Nat} (hn : n ≤ 999990) (hn1 : 1 ≤ n) (hb : HB T n) (hm : MR T) (cwd uid gid : Int) (s u : ByteArray) (mo N oa ob : Int) (hsz : s.size ≤ 1048576) :
  Calls Tryz.prog 30 #[.pointer (some ⟨t, 0, none⟩), .pointer (some ⟨r, 0, none⟩), .agg #[.int .i64 5, .int .i64 cwd, .int .i64 uid, .int .i64 gid, .string s, .string u, .int .i64 mo, .int .i64 N, .int .i64 oa, .int .i64 ob]] w fun e w' => e = .returned (.bool true) ∧ Did7 n0 w0 w t r B n w' := by
 have HX := Hd (hb.mono (show n ≤ 999999 by omega))
 have HXX := Hd (hb.mono (show n ≤ 1000000 by omega))
 have HB0 := Hd hb
 have HM := Hd hm
 have HST := Hd (fun w1 hbb => does7_start h 5 cwd uid gid s u mo N oa ob (w1 := w1) hbb)
 have hop : op7 5 cwd uid gid s u mo N oa ob = #[.int .i64 5, .int .i64 cwd, .int .i64 uid, .int .i64 gid, .string s, .string u, .int .i64 mo, .int .i64 N, .int .i64 oa, .int .i64 ob] := rfl
 rw [hop] at HST
 clear h hb hm hop
 go_enter Tryz.func30, Tryz.ntmps30
 go_wp2_with fail
 refine (who_any uid gid _).mono ?_
 rintro e w1 ⟨rfl, hbb⟩
 obtain ⟨hd, ho, hl⟩ := HST.out w1 hbb
 unfold cred whoC
 dsimp only
 go_upto_region 2 with fail
 generalize w1.alloc (.cells #[.int .i64 uid, .int .i64 uid, .int .i64 uid, .int .i64 gid, .int .i64 gid] 36) = W at *
 obtain ⟨b5, hb5⟩ : ∃ b5, w.heap.size = b5 := ⟨_, rfl⟩
 obtain ⟨b6, hb6⟩ : ∃ b6, w1.heap.size = b6 := ⟨_, rfl⟩
 rw [hb5, hb6] at ho
 rw [hb5, hb6]
 have HD := Hd hd
 have HO := Hd ho
 have HL := Hd hl
 clear hd ho hl hbb HST hb5 hb6
 obtain ⟨o0, o1, o2, o3, o4, o5, o6, o7, o8, o9, c0, c1, c2, c3, c4⟩ := HO.out.cells
 have KP : ∀ W' : World, O7 W' b5 b6 5 cwd uid gid s u mo N oa ob → (W'.cell? ⟨b5, 0, none⟩ = some (.int .i64 5) ∧ W'.cell? ⟨b5, 1, none⟩ = some (.int .i64 cwd) ∧ W'.cell? ⟨b5, 2, none⟩ = some (.int .i64 uid) ∧ W'.cell? ⟨b5, 3, none⟩ = some (.int .i64 gid) ∧ W'.cell? ⟨b5, 4, none⟩ = some (.string s) ∧ W'.cell? ⟨b5, 5, none⟩ = some (.string u) ∧ W'.cell? ⟨b5, 6, none⟩ = some (.int .i64 mo) ∧ W'.cell? ⟨b5, 7, none⟩ = some (.int .i64 N) ∧ W'.cell? ⟨b5, 8, none⟩ = some (.int .i64 oa) ∧ W'.cell? ⟨b5, 9, none⟩ = some (.int .i64 ob) ∧ W'.cell? ⟨b6, 0, none⟩ = some (.int .i64 uid) ∧ W'.cell? ⟨b6, 1, none⟩ = some (.int .i64 uid) ∧ W'.cell? ⟨b6, 2, none⟩ = some (.int .i64 uid) ∧ W'.cell? ⟨b6, 3, none⟩ = some (.int .i64 gid) ∧ W'.cell? ⟨b6, 4, none⟩ = some (.int .i64 gid)) := fun W' hh => hh.cells
 go_wp2_with fail
 go_region_held3 (fun W' => W'.cell? ⟨b5, 0, none⟩ = some (.int .i64 5) ∧ W'.cell? ⟨b5, 1, none⟩ = some (.int .i64 cwd) ∧ W'.cell? ⟨b5, 2, none⟩ = some (.int .i64 uid) ∧ W'.cell? ⟨b5, 3, none⟩ = some (.int .i64 gid) ∧ W'.cell? ⟨b5, 4, none⟩ = some (.string s) ∧ W'.cell? ⟨b5, 5, none⟩ = some (.string u) ∧ W'.cell? ⟨b5, 6, none⟩ = some (.int .i64 mo) ∧ W'.cell? ⟨b5, 7, none⟩ = some (.int .i64 N) ∧ W'.cell? ⟨b5, 8, none⟩ = some (.int .i64 oa) ∧ W'.cell? ⟨b5, 9, none⟩ = some (.int .i64 ob) ∧ W'.cell? ⟨b6, 0, none⟩ = some (.int .i64 uid) ∧ W'.cell? ⟨b6, 1, none⟩ = some (.int .i64 uid) ∧ W'.cell? ⟨b6, 2, none⟩ = some (.int .i64 uid) ∧ W'.cell? ⟨b6, 3, none⟩ = some (.int .i64 gid) ∧ W'.cell? ⟨b6, 4, none⟩ = some (.int .i64 gid))
  (first | (refine KP _ ?_; first | with_reducible exact HO.out | exact ho2 | exact ho1 | exact HO.out))
  (first
    | (go_at_call 21; refine (walkRemove_any (HD.out.below (Below.refl _ _).drew).a.tre cwd (whoC uid gid) s (bits .and .i64 N 1 == 1)).mono ?_; rintro e w2 ⟨p, rfl, hs⟩; obtain ⟨S1, T1, hd1, hr1, hl1⟩ := (HD.out.below (Below.refl _ _).drew).stp hs (fun _ hh => isWRemove.sound hh (HD.out.below (Below.refl _ _).drew).a.snd); have ho1 := HO.out.lay ((Lay.below (Below.refl _ _).drew).trans hl1))
    | (go_at_call 61; refine (RF.dremove_any hd1.b HM.out cwd (whoC uid gid) s hsz (bits .and .i64 N 1 == 1)).mono ?_; rintro e w3 ⟨q, rfl, hs2⟩; obtain ⟨G1, T3, hd2, hr2, hl2⟩ := hd1.stf hs2 (fun _ hh => isWRemove.sound hh hd1.b.snd); have ho2 := ho1.lay hl2)
    | (go_at_call 61; refine (RF.dremove_any (HD.out.below (Below.refl _ _).drew).b HM.out cwd (whoC uid gid) s hsz (bits .and .i64 N 1 == 1)).mono ?_; rintro e w2 ⟨q, rfl, hs⟩; obtain ⟨G1, T3, hd1, hr2, hl1⟩ := (HD.out.below (Below.refl _ _).drew).stf hs (fun _ hh => isWRemove.sound hh (HD.out.below (Below.refl _ _).drew).b.snd); have ho1 := HO.out.lay ((Lay.below (Below.refl _ _).drew).trans hl1))
    | (go_at_call 21; refine (walkRemove_any hd1.a.tre cwd (whoC uid gid) s (bits .and .i64 N 1 == 1)).mono ?_; rintro e w3 ⟨p, rfl, hs2⟩; obtain ⟨S1, T1, hd2, hr1, hl2⟩ := hd1.stp hs2 (fun _ hh => isWRemove.sound hh hd1.a.snd); have ho2 := ho1.lay hl2))
 all_goals
  obtain ⟨hpq, hT⟩ := isWRemove.one hr1 hr2
  subst hpq hT
  have hfin : Hid (Did7 n0 w0 w t r B n w3) := Hd ⟨S1, T1, G1, hd2, (HB0.out.wremove hr1).mono (Nat.le_succ n), HM.out.wremove hr1, HL.out.trans ((Lay.below (Below.refl _ _).drew).trans (hl1.trans hl2))⟩
  have hpp : (p == p) = true := by simp
  clear hd1 hd2 hr1 hr2 hl1 hl2 ho1 ho2
  go_wp2
  go_ret
  exact ⟨by show Ending.returned (.bool (p == p)) = _; rw [hpp], hfin.out⟩
theorem does7_link {n0 : Nat} {w0 w : World} {t : Nat} {S : Tab} {T : IT.Tr} {r B : Nat} {G : RF.Gt} (h : Duo n0 w0 w t S T r B G T) {n : Nat} (hn : n ≤ 999990) (hn1 : 1 ≤ n) (hb : HB T n) (hm : MR T) (cwd uid gid : Int) (s u : ByteArray) (mo N oa ob : Int) (hsz : s.size ≤ 1048576) (husz : u.size ≤ 1048576) :
  Calls Tryz.prog 30 #[.pointer (some ⟨t, 0, none⟩), .pointer (some ⟨r, 0, none⟩), .agg #[.int .i64 6, .int .i64 cwd, .int .i64 uid, .int .i64 gid, .string s, .string u, .int .i64 mo, .int .i64 N, .int .i64 oa, .int .i64 ob]] w fun e w' => e = .returned (.bool true) ∧ Did7 n0 w0 w t r B n w' := by
 have HX := Hd (hb.mono (show n ≤ 999999 by omega))
 have HXX := Hd (hb.mono (show n ≤ 1000000 by omega))
 have HB0 := Hd hb
 have HM := Hd hm
 have HST := Hd (fun w1 hbb => does7_start h 6 cwd uid gid s u mo N oa ob (w1 := w1) hbb)
 have hop : op7 6 cwd uid gid s u mo N oa ob = #[.int .i64 6, .int .i64 cwd, .int .i64 uid, .int .i64 gid, .string s, .string u, .int .i64 mo, .int .i64 N, .int .i64 oa, .int .i64 ob] := rfl
 rw [hop] at HST
 clear h hb hm hop
 go_enter Tryz.func30, Tryz.ntmps30
 go_wp2_with fail
 refine (who_any uid gid _).mono ?_
 rintro e w1 ⟨rfl, hbb⟩
 obtain ⟨hd, ho, hl⟩ := HST.out w1 hbb
 unfold cred whoC
 dsimp only
 go_upto_region 2 with fail
 generalize w1.alloc (.cells #[.int .i64 uid, .int .i64 uid, .int .i64 uid, .int .i64 gid, .int .i64 gid] 36) = W at *
 obtain ⟨b5, hb5⟩ : ∃ b5, w.heap.size = b5 := ⟨_, rfl⟩
 obtain ⟨b6, hb6⟩ : ∃ b6, w1.heap.size = b6 := ⟨_, rfl⟩
 rw [hb5, hb6] at ho
 rw [hb5, hb6]
 have HD := Hd hd
 have HO := Hd ho
 have HL := Hd hl
 clear hd ho hl hbb HST hb5 hb6
 obtain ⟨o0, o1, o2, o3, o4, o5, o6, o7, o8, o9, c0, c1, c2, c3, c4⟩ := HO.out.cells
 have KP : ∀ W' : World, O7 W' b5 b6 6 cwd uid gid s u mo N oa ob → (W'.cell? ⟨b5, 0, none⟩ = some (.int .i64 6) ∧ W'.cell? ⟨b5, 1, none⟩ = some (.int .i64 cwd) ∧ W'.cell? ⟨b5, 2, none⟩ = some (.int .i64 uid) ∧ W'.cell? ⟨b5, 3, none⟩ = some (.int .i64 gid) ∧ W'.cell? ⟨b5, 4, none⟩ = some (.string s) ∧ W'.cell? ⟨b5, 5, none⟩ = some (.string u) ∧ W'.cell? ⟨b5, 6, none⟩ = some (.int .i64 mo) ∧ W'.cell? ⟨b5, 7, none⟩ = some (.int .i64 N) ∧ W'.cell? ⟨b5, 8, none⟩ = some (.int .i64 oa) ∧ W'.cell? ⟨b5, 9, none⟩ = some (.int .i64 ob) ∧ W'.cell? ⟨b6, 0, none⟩ = some (.int .i64 uid) ∧ W'.cell? ⟨b6, 1, none⟩ = some (.int .i64 uid) ∧ W'.cell? ⟨b6, 2, none⟩ = some (.int .i64 uid) ∧ W'.cell? ⟨b6, 3, none⟩ = some (.int .i64 gid) ∧ W'.cell? ⟨b6, 4, none⟩ = some (.int .i64 gid)) := fun W' hh => hh.cells
 go_wp2_with fail
 go_region_held3 (fun W' => W'.cell? ⟨b5, 0, none⟩ = some (.int .i64 6) ∧ W'.cell? ⟨b5, 1, none⟩ = some (.int .i64 cwd) ∧ W'.cell? ⟨b5, 2, none⟩ = some (.int .i64 uid) ∧ W'.cell? ⟨b5, 3, none⟩ = some (.int .i64 gid) ∧ W'.cell? ⟨b5, 4, none⟩ = some (.string s) ∧ W'.cell? ⟨b5, 5, none⟩ = some (.string u) ∧ W'.cell? ⟨b5, 6, none⟩ = some (.int .i64 mo) ∧ W'.cell? ⟨b5, 7, none⟩ = some (.int .i64 N) ∧ W'.cell? ⟨b5, 8, none⟩ = some (.int .i64 oa) ∧ W'.cell? ⟨b5, 9, none⟩ = some (.int .i64 ob) ∧ W'.cell? ⟨b6, 0, none⟩ = some (.int .i64 uid) ∧ W'.cell? ⟨b6, 1, none⟩ = some (.int .i64 uid) ∧ W'.cell? ⟨b6, 2, none⟩ = some (.int .i64 uid) ∧ W'.cell? ⟨b6, 3, none⟩ = some (.int .i64 gid) ∧ W'.cell? ⟨b6, 4, none⟩ = some (.int .i64 gid))
  (first | (refine KP _ ?_; first | with_reducible exact HO.out | exact ho2 | exact ho1 | exact HO.out))
  (first
    | (go_at_call 25; refine (walkLink_any (HD.out.below (Below.refl _ _).drew).a.tre cwd (whoC uid gid) s u).mono ?_; rintro e w2 ⟨p, rfl, hs⟩; obtain ⟨S1, T1, hd1, hr1, hl1⟩ := (HD.out.below (Below.refl _ _).drew).stp hs (fun _ hh => isLink.sound hh (HD.out.below (Below.refl _ _).drew).a.snd); have ho1 := HO.out.lay ((Lay.below (Below.refl _ _).drew).trans hl1))
    | (go_at_call 62; refine (RF.dlink_any hd1.b HM.out cwd (whoC uid gid) s u hsz husz).mono ?_; rintro e w3 ⟨q, rfl, hs2⟩; obtain ⟨G1, T3, hd2, hr2, hl2⟩ := hd1.stf hs2 (fun _ hh => isLink.sound hh hd1.b.snd); have ho2 := ho1.lay hl2)
    | (go_at_call 62; refine (RF.dlink_any (HD.out.below (Below.refl _ _).drew).b HM.out cwd (whoC uid gid) s u hsz husz).mono ?_; rintro e w2 ⟨q, rfl, hs⟩; obtain ⟨G1, T3, hd1, hr2, hl1⟩ := (HD.out.below (Below.refl _ _).drew).stf hs (fun _ hh => isLink.sound hh (HD.out.below (Below.refl _ _).drew).b.snd); have ho1 := HO.out.lay ((Lay.below (Below.refl _ _).drew).trans hl1))
    | (go_at_call 25; refine (walkLink_any hd1.a.tre cwd (whoC uid gid) s u).mono ?_; rintro e w3 ⟨p, rfl, hs2⟩; obtain ⟨S1, T1, hd2, hr1, hl2⟩ := hd1.stp hs2 (fun _ hh => isLink.sound hh hd1.a.snd); have ho2 := ho1.lay hl2))
 all_goals
  obtain ⟨hpq, hT⟩ := isLink.one hr1 hr2
  subst hpq hT
  have hfin : Hid (Did7 n0 w0 w t r B n w3) := Hd ⟨S1, T1, G1, hd2, (HB0.out.link hr1).mono (Nat.le_succ n), HM.out.link hr1, HL.out.trans ((Lay.below (Below.refl _ _).drew).trans (hl1.trans hl2))⟩
  have hpp : (p == p) = true := by simp
  clear hd1 hd2 hr1 hr2 hl1 hl2 ho1 ho2
  go_wp2
  go_ret
  exact ⟨by show Ending.returned (.bool (p == p)) = _; rw [hpp], hfin.out⟩
theorem does7_rename {n0 : Nat} {w0 w : World} {t : Nat} {S : Tab} {T : IT.Tr} {r B : Nat} {G : RF.Gt} (h : Duo n0 w0 w t S T r B G T) {n : Nat} (hn : n ≤ 999990) (hn1 : 1 ≤ n) (hb : HB T n) (hm : MR T) (cwd uid gid : Int) (s u : ByteArray) (mo N oa ob : Int) (hsz : s.size ≤ 1048576) (husz : u.size ≤ 1048576) :
  Calls Tryz.prog 30 #[.pointer (some ⟨t, 0, none⟩), .pointer (some ⟨r, 0, none⟩), .agg #[.int .i64 7, .int .i64 cwd, .int .i64 uid, .int .i64 gid, .string s, .string u, .int .i64 mo, .int .i64 N, .int .i64 oa, .int .i64 ob]] w fun e w' => e = .returned (.bool true) ∧ Did7 n0 w0 w t r B n w' := by
 have HX := Hd (hb.mono (show n ≤ 999999 by omega))
 have HXX := Hd (hb.mono (show n ≤ 1000000 by omega))
 have HB0 := Hd hb
 have HM := Hd hm
 have HST := Hd (fun w1 hbb => does7_start h 7 cwd uid gid s u mo N oa ob (w1 := w1) hbb)
 have hop : op7 7 cwd uid gid s u mo N oa ob = #[.int .i64 7, .int .i64 cwd, .int .i64 uid, .int .i64 gid, .string s, .string u, .int .i64 mo, .int .i64 N, .int .i64 oa, .int .i64 ob] := rfl
 rw [hop] at HST
 clear h hb hm hop
 go_enter Tryz.func30, Tryz.ntmps30
 go_wp2_with fail
 refine (who_any uid gid _).mono ?_
 rintro e w1 ⟨rfl, hbb⟩
 obtain ⟨hd, ho, hl⟩ := HST.out w1 hbb
 unfold cred whoC
 dsimp only
 go_upto_region 2 with fail
 generalize w1.alloc (.cells #[.int .i64 uid, .int .i64 uid, .int .i64 uid, .int .i64 gid, .int .i64 gid] 36) = W at *
 obtain ⟨b5, hb5⟩ : ∃ b5, w.heap.size = b5 := ⟨_, rfl⟩
 obtain ⟨b6, hb6⟩ : ∃ b6, w1.heap.size = b6 := ⟨_, rfl⟩
 rw [hb5, hb6] at ho
 rw [hb5, hb6]
 have HD := Hd hd
 have HO := Hd ho
 have HL := Hd hl
 clear hd ho hl hbb HST hb5 hb6
 obtain ⟨o0, o1, o2, o3, o4, o5, o6, o7, o8, o9, c0, c1, c2, c3, c4⟩ := HO.out.cells
 have KP : ∀ W' : World, O7 W' b5 b6 7 cwd uid gid s u mo N oa ob → (W'.cell? ⟨b5, 0, none⟩ = some (.int .i64 7) ∧ W'.cell? ⟨b5, 1, none⟩ = some (.int .i64 cwd) ∧ W'.cell? ⟨b5, 2, none⟩ = some (.int .i64 uid) ∧ W'.cell? ⟨b5, 3, none⟩ = some (.int .i64 gid) ∧ W'.cell? ⟨b5, 4, none⟩ = some (.string s) ∧ W'.cell? ⟨b5, 5, none⟩ = some (.string u) ∧ W'.cell? ⟨b5, 6, none⟩ = some (.int .i64 mo) ∧ W'.cell? ⟨b5, 7, none⟩ = some (.int .i64 N) ∧ W'.cell? ⟨b5, 8, none⟩ = some (.int .i64 oa) ∧ W'.cell? ⟨b5, 9, none⟩ = some (.int .i64 ob) ∧ W'.cell? ⟨b6, 0, none⟩ = some (.int .i64 uid) ∧ W'.cell? ⟨b6, 1, none⟩ = some (.int .i64 uid) ∧ W'.cell? ⟨b6, 2, none⟩ = some (.int .i64 uid) ∧ W'.cell? ⟨b6, 3, none⟩ = some (.int .i64 gid) ∧ W'.cell? ⟨b6, 4, none⟩ = some (.int .i64 gid)) := fun W' hh => hh.cells
 go_wp2_with fail
 go_region_held3 (fun W' => W'.cell? ⟨b5, 0, none⟩ = some (.int .i64 7) ∧ W'.cell? ⟨b5, 1, none⟩ = some (.int .i64 cwd) ∧ W'.cell? ⟨b5, 2, none⟩ = some (.int .i64 uid) ∧ W'.cell? ⟨b5, 3, none⟩ = some (.int .i64 gid) ∧ W'.cell? ⟨b5, 4, none⟩ = some (.string s) ∧ W'.cell? ⟨b5, 5, none⟩ = some (.string u) ∧ W'.cell? ⟨b5, 6, none⟩ = some (.int .i64 mo) ∧ W'.cell? ⟨b5, 7, none⟩ = some (.int .i64 N) ∧ W'.cell? ⟨b5, 8, none⟩ = some (.int .i64 oa) ∧ W'.cell? ⟨b5, 9, none⟩ = some (.int .i64 ob) ∧ W'.cell? ⟨b6, 0, none⟩ = some (.int .i64 uid) ∧ W'.cell? ⟨b6, 1, none⟩ = some (.int .i64 uid) ∧ W'.cell? ⟨b6, 2, none⟩ = some (.int .i64 uid) ∧ W'.cell? ⟨b6, 3, none⟩ = some (.int .i64 gid) ∧ W'.cell? ⟨b6, 4, none⟩ = some (.int .i64 gid))
  (first | (refine KP _ ?_; first | with_reducible exact HO.out | exact ho2 | exact ho1 | exact HO.out))
  (first
    | (go_at_call 24; refine (walkRename_any (HD.out.below (Below.refl _ _).drew).a.tre HXX.out cwd (whoC uid gid) s u).mono ?_; rintro e w2 ⟨p, rfl, hs⟩; obtain ⟨S1, T1, hd1, hr1, hl1⟩ := (HD.out.below (Below.refl _ _).drew).stp hs (fun _ hh => isRename.sound hh (HD.out.below (Below.refl _ _).drew).a.snd); have ho1 := HO.out.lay ((Lay.below (Below.refl _ _).drew).trans hl1))
    | (go_at_call 63; refine (RF.drename_any hd1.b HM.out HXX.out cwd (whoC uid gid) s u hsz husz).mono ?_; rintro e w3 ⟨q, rfl, hs2⟩; obtain ⟨G1, T3, hd2, hr2, hl2⟩ := hd1.stf hs2 (fun _ hh => isRename.sound hh hd1.b.snd); have ho2 := ho1.lay hl2)
    | (go_at_call 63; refine (RF.drename_any (HD.out.below (Below.refl _ _).drew).b HM.out HXX.out cwd (whoC uid gid) s u hsz husz).mono ?_; rintro e w2 ⟨q, rfl, hs⟩; obtain ⟨G1, T3, hd1, hr2, hl1⟩ := (HD.out.below (Below.refl _ _).drew).stf hs (fun _ hh => isRename.sound hh (HD.out.below (Below.refl _ _).drew).b.snd); have ho1 := HO.out.lay ((Lay.below (Below.refl _ _).drew).trans hl1))
    | (go_at_call 24; refine (walkRename_any hd1.a.tre HXX.out cwd (whoC uid gid) s u).mono ?_; rintro e w3 ⟨p, rfl, hs2⟩; obtain ⟨S1, T1, hd2, hr1, hl2⟩ := hd1.stp hs2 (fun _ hh => isRename.sound hh hd1.a.snd); have ho2 := ho1.lay hl2))
 all_goals
  obtain ⟨hpq, hT⟩ := isRename.one hr1 hr2
  subst hpq hT
  have hfin : Hid (Did7 n0 w0 w t r B n w3) := Hd ⟨S1, T1, G1, hd2, (HB0.out.rename hr1).mono (Nat.le_succ n), HM.out.rename hr1, HL.out.trans ((Lay.below (Below.refl _ _).drew).trans (hl1.trans hl2))⟩
  have hpp : (p == p) = true := by simp
  clear hd1 hd2 hr1 hr2 hl1 hl2 ho1 ho2
  go_wp2
  go_ret
  exact ⟨by show Ending.returned (.bool (p == p)) = _; rw [hpp], hfin.out⟩
theorem does7_chmod {n0 : Nat} {w0 w : World} {t : Nat} {S : Tab} {T : IT.Tr} {r B : Nat} {G : RF.Gt} (h : Duo n0 w0 w t S T r B G T) {n : Nat} (hn : n ≤ 999990) (hn1 : 1 ≤ n) (hb : HB T n) (hm : MR T) (cwd uid gid : Int) (s u : ByteArray) (mo N oa ob : Int) (hsz : s.size ≤ 1048576) (hmo : mo < 9223372036854775808) :
  Calls Tryz.prog 30 #[.pointer (some ⟨t, 0, none⟩), .pointer (some ⟨r, 0, none⟩), .agg #[.int .i64 8, .int .i64 cwd, .int .i64 uid, .int .i64 gid, .string s, .string u, .int .i64 mo, .int .i64 N, .int .i64 oa, .int .i64 ob]] w fun e w' => e = .returned (.bool true) ∧ Did7 n0 w0 w t r B n w' := by
 have HX := Hd (hb.mono (show n ≤ 999999 by omega))
 have HXX := Hd (hb.mono (show n ≤ 1000000 by omega))
 have HB0 := Hd hb
 have HM := Hd hm
 have HST := Hd (fun w1 hbb => does7_start h 8 cwd uid gid s u mo N oa ob (w1 := w1) hbb)
 have hop : op7 8 cwd uid gid s u mo N oa ob = #[.int .i64 8, .int .i64 cwd, .int .i64 uid, .int .i64 gid, .string s, .string u, .int .i64 mo, .int .i64 N, .int .i64 oa, .int .i64 ob] := rfl
 rw [hop] at HST
 clear h hb hm hop
 go_enter Tryz.func30, Tryz.ntmps30
 go_wp2_with fail
 refine (who_any uid gid _).mono ?_
 rintro e w1 ⟨rfl, hbb⟩
 obtain ⟨hd, ho, hl⟩ := HST.out w1 hbb
 unfold cred whoC
 dsimp only
 go_upto_region 2 with fail
 generalize w1.alloc (.cells #[.int .i64 uid, .int .i64 uid, .int .i64 uid, .int .i64 gid, .int .i64 gid] 36) = W at *
 obtain ⟨b5, hb5⟩ : ∃ b5, w.heap.size = b5 := ⟨_, rfl⟩
 obtain ⟨b6, hb6⟩ : ∃ b6, w1.heap.size = b6 := ⟨_, rfl⟩
 rw [hb5, hb6] at ho
 rw [hb5, hb6]
 have HD := Hd hd
 have HO := Hd ho
 have HL := Hd hl
 clear hd ho hl hbb HST hb5 hb6
 obtain ⟨o0, o1, o2, o3, o4, o5, o6, o7, o8, o9, c0, c1, c2, c3, c4⟩ := HO.out.cells
 have KP : ∀ W' : World, O7 W' b5 b6 8 cwd uid gid s u mo N oa ob → (W'.cell? ⟨b5, 0, none⟩ = some (.int .i64 8) ∧ W'.cell? ⟨b5, 1, none⟩ = some (.int .i64 cwd) ∧ W'.cell? ⟨b5, 2, none⟩ = some (.int .i64 uid) ∧ W'.cell? ⟨b5, 3, none⟩ = some (.int .i64 gid) ∧ W'.cell? ⟨b5, 4, none⟩ = some (.string s) ∧ W'.cell? ⟨b5, 5, none⟩ = some (.string u) ∧ W'.cell? ⟨b5, 6, none⟩ = some (.int .i64 mo) ∧ W'.cell? ⟨b5, 7, none⟩ = some (.int .i64 N) ∧ W'.cell? ⟨b5, 8, none⟩ = some (.int .i64 oa) ∧ W'.cell? ⟨b5, 9, none⟩ = some (.int .i64 ob) ∧ W'.cell? ⟨b6, 0, none⟩ = some (.int .i64 uid) ∧ W'.cell? ⟨b6, 1, none⟩ = some (.int .i64 uid) ∧ W'.cell? ⟨b6, 2, none⟩ = some (.int .i64 uid) ∧ W'.cell? ⟨b6, 3, none⟩ = some (.int .i64 gid) ∧ W'.cell? ⟨b6, 4, none⟩ = some (.int .i64 gid)) := fun W' hh => hh.cells
 go_wp2_with fail
 go_region_held3 (fun W' => W'.cell? ⟨b5, 0, none⟩ = some (.int .i64 8) ∧ W'.cell? ⟨b5, 1, none⟩ = some (.int .i64 cwd) ∧ W'.cell? ⟨b5, 2, none⟩ = some (.int .i64 uid) ∧ W'.cell? ⟨b5, 3, none⟩ = some (.int .i64 gid) ∧ W'.cell? ⟨b5, 4, none⟩ = some (.string s) ∧ W'.cell? ⟨b5, 5, none⟩ = some (.string u) ∧ W'.cell? ⟨b5, 6, none⟩ = some (.int .i64 mo) ∧ W'.cell? ⟨b5, 7, none⟩ = some (.int .i64 N) ∧ W'.cell? ⟨b5, 8, none⟩ = some (.int .i64 oa) ∧ W'.cell? ⟨b5, 9, none⟩ = some (.int .i64 ob) ∧ W'.cell? ⟨b6, 0, none⟩ = some (.int .i64 uid) ∧ W'.cell? ⟨b6, 1, none⟩ = some (.int .i64 uid) ∧ W'.cell? ⟨b6, 2, none⟩ = some (.int .i64 uid) ∧ W'.cell? ⟨b6, 3, none⟩ = some (.int .i64 gid) ∧ W'.cell? ⟨b6, 4, none⟩ = some (.int .i64 gid))
  (first | (refine KP _ ?_; first | with_reducible exact HO.out | exact ho2 | exact ho1 | exact HO.out))
  (first
    | (go_at_call 18; refine (walkChmod_any (HD.out.below (Below.refl _ _).drew).a.tre cwd (whoC uid gid) s mo).mono ?_; rintro e w2 ⟨p, rfl, hs⟩; obtain ⟨S1, T1, hd1, hr1, hl1⟩ := (HD.out.below (Below.refl _ _).drew).stp hs (fun _ hh => isChmod.sound hh (HD.out.below (Below.refl _ _).drew).a.snd); have ho1 := HO.out.lay ((Lay.below (Below.refl _ _).drew).trans hl1))
    | (go_at_call 64; refine (RF.dchmod_any hd1.b HM.out cwd (whoC uid gid) s hsz mo hmo).mono ?_; rintro e w3 ⟨q, rfl, hs2⟩; obtain ⟨G1, T3, hd2, hr2, hl2⟩ := hd1.stf hs2 (fun _ hh => isChmod.sound hh hd1.b.snd); have ho2 := ho1.lay hl2)
    | (go_at_call 64; refine (RF.dchmod_any (HD.out.below (Below.refl _ _).drew).b HM.out cwd (whoC uid gid) s hsz mo hmo).mono ?_; rintro e w2 ⟨q, rfl, hs⟩; obtain ⟨G1, T3, hd1, hr2, hl1⟩ := (HD.out.below (Below.refl _ _).drew).stf hs (fun _ hh => isChmod.sound hh (HD.out.below (Below.refl _ _).drew).b.snd); have ho1 := HO.out.lay ((Lay.below (Below.refl _ _).drew).trans hl1))
    | (go_at_call 18; refine (walkChmod_any hd1.a.tre cwd (whoC uid gid) s mo).mono ?_; rintro e w3 ⟨p, rfl, hs2⟩; obtain ⟨S1, T1, hd2, hr1, hl2⟩ := hd1.stp hs2 (fun _ hh => isChmod.sound hh hd1.a.snd); have ho2 := ho1.lay hl2))
 all_goals
  obtain ⟨hpq, hT⟩ := isChmod.one hr1 hr2
  subst hpq hT
  have hfin : Hid (Did7 n0 w0 w t r B n w3) := Hd ⟨S1, T1, G1, hd2, (HB0.out.chmod hr1).mono (Nat.le_succ n), HM.out.chmod hr1, HL.out.trans ((Lay.below (Below.refl _ _).drew).trans (hl1.trans hl2))⟩
  have hpp : (p == p) = true := by simp
  clear hd1 hd2 hr1 hr2 hl1 hl2 ho1 ho2
  go_wp2
  go_ret
  exact ⟨by show Ending.returned (.bool (p == p)) = _; rw [hpp], hfin.out⟩
theorem does7_chown {n0 : Nat} {w0 w : World} {t : Nat} {S : Tab} {T : IT.Tr} {r B : Nat} {G : RF.Gt} (h : Duo n0 w0 w t S T r B G T) {n : Nat} (hn : n ≤ 999990) (hn1 : 1 ≤ n) (hb : HB T n) (hm : MR T) (cwd uid gid : Int) (s u : ByteArray) (mo N oa ob : Int) (hsz : s.size ≤ 1048576) :
  Calls Tryz.prog 30 #[.pointer (some ⟨t, 0, none⟩), .pointer (some ⟨r, 0, none⟩), .agg #[.int .i64 9, .int .i64 cwd, .int .i64 uid, .int .i64 gid, .string s, .string u, .int .i64 mo, .int .i64 N, .int .i64 oa, .int .i64 ob]] w fun e w' => e = .returned (.bool true) ∧ Did7 n0 w0 w t r B n w' := by
 have HX := Hd (hb.mono (show n ≤ 999999 by omega))
 have HXX := Hd (hb.mono (show n ≤ 1000000 by omega))
 have HB0 := Hd hb
 have HM := Hd hm
 have HST := Hd (fun w1 hbb => does7_start h 9 cwd uid gid s u mo N oa ob (w1 := w1) hbb)
 have hop : op7 9 cwd uid gid s u mo N oa ob = #[.int .i64 9, .int .i64 cwd, .int .i64 uid, .int .i64 gid, .string s, .string u, .int .i64 mo, .int .i64 N, .int .i64 oa, .int .i64 ob] := rfl
 rw [hop] at HST
 clear h hb hm hop
 go_enter Tryz.func30, Tryz.ntmps30
 go_wp2_with fail
 refine (who_any uid gid _).mono ?_
 rintro e w1 ⟨rfl, hbb⟩
 obtain ⟨hd, ho, hl⟩ := HST.out w1 hbb
 unfold cred whoC
 dsimp only
 go_upto_region 2 with fail
 generalize w1.alloc (.cells #[.int .i64 uid, .int .i64 uid, .int .i64 uid, .int .i64 gid, .int .i64 gid] 36) = W at *
 obtain ⟨b5, hb5⟩ : ∃ b5, w.heap.size = b5 := ⟨_, rfl⟩
 obtain ⟨b6, hb6⟩ : ∃ b6, w1.heap.size = b6 := ⟨_, rfl⟩
 rw [hb5, hb6] at ho
 rw [hb5, hb6]
 have HD := Hd hd
 have HO := Hd ho
 have HL := Hd hl
 clear hd ho hl hbb HST hb5 hb6
 obtain ⟨o0, o1, o2, o3, o4, o5, o6, o7, o8, o9, c0, c1, c2, c3, c4⟩ := HO.out.cells
 have KP : ∀ W' : World, O7 W' b5 b6 9 cwd uid gid s u mo N oa ob → (W'.cell? ⟨b5, 0, none⟩ = some (.int .i64 9) ∧ W'.cell? ⟨b5, 1, none⟩ = some (.int .i64 cwd) ∧ W'.cell? ⟨b5, 2, none⟩ = some (.int .i64 uid) ∧ W'.cell? ⟨b5, 3, none⟩ = some (.int .i64 gid) ∧ W'.cell? ⟨b5, 4, none⟩ = some (.string s) ∧ W'.cell? ⟨b5, 5, none⟩ = some (.string u) ∧ W'.cell? ⟨b5, 6, none⟩ = some (.int .i64 mo) ∧ W'.cell? ⟨b5, 7, none⟩ = some (.int .i64 N) ∧ W'.cell? ⟨b5, 8, none⟩ = some (.int .i64 oa) ∧ W'.cell? ⟨b5, 9, none⟩ = some (.int .i64 ob) ∧ W'.cell? ⟨b6, 0, none⟩ = some (.int .i64 uid) ∧ W'.cell? ⟨b6, 1, none⟩ = some (.int .i64 uid) ∧ W'.cell? ⟨b6, 2, none⟩ = some (.int .i64 uid) ∧ W'.cell? ⟨b6, 3, none⟩ = some (.int .i64 gid) ∧ W'.cell? ⟨b6, 4, none⟩ = some (.int .i64 gid)) := fun W' hh => hh.cells
 go_wp2_with fail
 go_region_held3 (fun W' => W'.cell? ⟨b5, 0, none⟩ = some (.int .i64 9) ∧ W'.cell? ⟨b5, 1, none⟩ = some (.int .i64 cwd) ∧ W'.cell? ⟨b5, 2, none⟩ = some (.int .i64 uid) ∧ W'.cell? ⟨b5, 3, none⟩ = some (.int .i64 gid) ∧ W'.cell? ⟨b5, 4, none⟩ = some (.string s) ∧ W'.cell? ⟨b5, 5, none⟩ = some (.string u) ∧ W'.cell? ⟨b5, 6, none⟩ = some (.int .i64 mo) ∧ W'.cell? ⟨b5, 7, none⟩ = some (.int .i64 N) ∧ W'.cell? ⟨b5, 8, none⟩ = some (.int .i64 oa) ∧ W'.cell? ⟨b5, 9, none⟩ = some (.int .i64 ob) ∧ W'.cell? ⟨b6, 0, none⟩ = some (.int .i64 uid) ∧ W'.cell? ⟨b6, 1, none⟩ = some (.int .i64 uid) ∧ W'.cell? ⟨b6, 2, none⟩ = some (.int .i64 uid) ∧ W'.cell? ⟨b6, 3, none⟩ = some (.int .i64 gid) ∧ W'.cell? ⟨b6, 4, none⟩ = some (.int .i64 gid))
  (first | (refine KP _ ?_; first | with_reducible exact HO.out | exact ho2 | exact ho1 | exact HO.out))
  (first
    | (go_at_call 19; refine (walkChown_any (HD.out.below (Below.refl _ _).drew).a.tre cwd (whoC uid gid) s oa ob).mono ?_; rintro e w2 ⟨p, rfl, hs⟩; obtain ⟨S1, T1, hd1, hr1, hl1⟩ := (HD.out.below (Below.refl _ _).drew).stp hs (fun _ hh => isChown.sound hh (HD.out.below (Below.refl _ _).drew).a.snd); have ho1 := HO.out.lay ((Lay.below (Below.refl _ _).drew).trans hl1))
    | (go_at_call 65; refine (RF.dchown_any hd1.b HM.out cwd (whoC uid gid) s hsz oa ob).mono ?_; rintro e w3 ⟨q, rfl, hs2⟩; obtain ⟨G1, T3, hd2, hr2, hl2⟩ := hd1.stf hs2 (fun _ hh => isChown.sound hh hd1.b.snd); have ho2 := ho1.lay hl2)
    | (go_at_call 65; refine (RF.dchown_any (HD.out.below (Below.refl _ _).drew).b HM.out cwd (whoC uid gid) s hsz oa ob).mono ?_; rintro e w2 ⟨q, rfl, hs⟩; obtain ⟨G1, T3, hd1, hr2, hl1⟩ := (HD.out.below (Below.refl _ _).drew).stf hs (fun _ hh => isChown.sound hh (HD.out.below (Below.refl _ _).drew).b.snd); have ho1 := HO.out.lay ((Lay.below (Below.refl _ _).drew).trans hl1))
    | (go_at_call 19; refine (walkChown_any hd1.a.tre cwd (whoC uid gid) s oa ob).mono ?_; rintro e w3 ⟨p, rfl, hs2⟩; obtain ⟨S1, T1, hd2, hr1, hl2⟩ := hd1.stp hs2 (fun _ hh => isChown.sound hh hd1.a.snd); have ho2 := ho1.lay hl2))
 all_goals
  obtain ⟨hpq, hT⟩ := isChown.one hr1 hr2
  subst hpq hT
  have hfin : Hid (Did7 n0 w0 w t r B n w3) := Hd ⟨S1, T1, G1, hd2, (HB0.out.chown hr1).mono (Nat.le_succ n), HM.out.chown hr1, HL.out.trans ((Lay.below (Below.refl _ _).drew).trans (hl1.trans hl2))⟩
  have hpp : (p == p) = true := by simp
  clear hd1 hd2 hr1 hr2 hl1 hl2 ho1 ho2
  go_wp2
  go_ret
  exact ⟨by show Ending.returned (.bool (p == p)) = _; rw [hpp], hfin.out⟩
theorem does7_put {n0 : Nat} {w0 w : World} {t : Nat} {S : Tab} {T : IT.Tr} {r B : Nat} {G : RF.Gt} (h : Duo n0 w0 w t S T r B G T) {n : Nat} (hn : n ≤ 999990) (hn1 : 1 ≤ n) (hb : HB T n) (hm : MR T) (cwd uid gid : Int) (s u : ByteArray) (mo N oa ob : Int) (hul : u.size ≤ maxLen) (hob : -9223372036854775808 ≤ ob) :
  Calls Tryz.prog 30 #[.pointer (some ⟨t, 0, none⟩), .pointer (some ⟨r, 0, none⟩), .agg #[.int .i64 10, .int .i64 cwd, .int .i64 uid, .int .i64 gid, .string s, .string u, .int .i64 mo, .int .i64 N, .int .i64 oa, .int .i64 ob]] w fun e w' => e = .returned (.bool true) ∧ Did7 n0 w0 w t r B n w' := by
 have HX := Hd (hb.mono (show n ≤ 999999 by omega))
 have HXX := Hd (hb.mono (show n ≤ 1000000 by omega))
 have HB0 := Hd hb
 have HM := Hd hm
 have HST := Hd (fun w1 hbb => does7_start h 10 cwd uid gid s u mo N oa ob (w1 := w1) hbb)
 have hop : op7 10 cwd uid gid s u mo N oa ob = #[.int .i64 10, .int .i64 cwd, .int .i64 uid, .int .i64 gid, .string s, .string u, .int .i64 mo, .int .i64 N, .int .i64 oa, .int .i64 ob] := rfl
 rw [hop] at HST
 clear h hb hm hop
 go_enter Tryz.func30, Tryz.ntmps30
 go_wp2_with fail
 refine (who_any uid gid _).mono ?_
 rintro e w1 ⟨rfl, hbb⟩
 obtain ⟨hd, ho, hl⟩ := HST.out w1 hbb
 unfold cred whoC
 dsimp only
 go_upto_region 2 with fail
 generalize w1.alloc (.cells #[.int .i64 uid, .int .i64 uid, .int .i64 uid, .int .i64 gid, .int .i64 gid] 36) = W at *
 obtain ⟨b5, hb5⟩ : ∃ b5, w.heap.size = b5 := ⟨_, rfl⟩
 obtain ⟨b6, hb6⟩ : ∃ b6, w1.heap.size = b6 := ⟨_, rfl⟩
 rw [hb5, hb6] at ho
 rw [hb5, hb6]
 have HD := Hd hd
 have HO := Hd ho
 have HL := Hd hl
 clear hd ho hl hbb HST hb5 hb6
 obtain ⟨o0, o1, o2, o3, o4, o5, o6, o7, o8, o9, c0, c1, c2, c3, c4⟩ := HO.out.cells
 have KP : ∀ W' : World, O7 W' b5 b6 10 cwd uid gid s u mo N oa ob → (W'.cell? ⟨b5, 0, none⟩ = some (.int .i64 10) ∧ W'.cell? ⟨b5, 1, none⟩ = some (.int .i64 cwd) ∧ W'.cell? ⟨b5, 2, none⟩ = some (.int .i64 uid) ∧ W'.cell? ⟨b5, 3, none⟩ = some (.int .i64 gid) ∧ W'.cell? ⟨b5, 4, none⟩ = some (.string s) ∧ W'.cell? ⟨b5, 5, none⟩ = some (.string u) ∧ W'.cell? ⟨b5, 6, none⟩ = some (.int .i64 mo) ∧ W'.cell? ⟨b5, 7, none⟩ = some (.int .i64 N) ∧ W'.cell? ⟨b5, 8, none⟩ = some (.int .i64 oa) ∧ W'.cell? ⟨b5, 9, none⟩ = some (.int .i64 ob) ∧ W'.cell? ⟨b6, 0, none⟩ = some (.int .i64 uid) ∧ W'.cell? ⟨b6, 1, none⟩ = some (.int .i64 uid) ∧ W'.cell? ⟨b6, 2, none⟩ = some (.int .i64 uid) ∧ W'.cell? ⟨b6, 3, none⟩ = some (.int .i64 gid) ∧ W'.cell? ⟨b6, 4, none⟩ = some (.int .i64 gid)) := fun W' hh => hh.cells
 go_wp2_with fail
 go_region_held3 (fun W' => W'.cell? ⟨b5, 0, none⟩ = some (.int .i64 10) ∧ W'.cell? ⟨b5, 1, none⟩ = some (.int .i64 cwd) ∧ W'.cell? ⟨b5, 2, none⟩ = some (.int .i64 uid) ∧ W'.cell? ⟨b5, 3, none⟩ = some (.int .i64 gid) ∧ W'.cell? ⟨b5, 4, none⟩ = some (.string s) ∧ W'.cell? ⟨b5, 5, none⟩ = some (.string u) ∧ W'.cell? ⟨b5, 6, none⟩ = some (.int .i64 mo) ∧ W'.cell? ⟨b5, 7, none⟩ = some (.int .i64 N) ∧ W'.cell? ⟨b5, 8, none⟩ = some (.int .i64 oa) ∧ W'.cell? ⟨b5, 9, none⟩ = some (.int .i64 ob) ∧ W'.cell? ⟨b6, 0, none⟩ = some (.int .i64 uid) ∧ W'.cell? ⟨b6, 1, none⟩ = some (.int .i64 uid) ∧ W'.cell? ⟨b6, 2, none⟩ = some (.int .i64 uid) ∧ W'.cell? ⟨b6, 3, none⟩ = some (.int .i64 gid) ∧ W'.cell? ⟨b6, 4, none⟩ = some (.int .i64 gid))
  (first | (refine KP _ ?_; first | with_reducible exact HO.out | exact ho2 | exact ho1 | exact HO.out))
  (first
    | (go_at_call 66; refine (walkPut_any (HD.out.below (Below.refl _ _).drew).a.tre oa ob u).mono ?_; rintro e w2 ⟨p, rfl, hs⟩; obtain ⟨S1, T1, hd1, hr1, hl1⟩ := (HD.out.below (Below.refl _ _).drew).stp hs (fun _ hh => isWPut.sound hh (HD.out.below (Below.refl _ _).drew).a.snd); have ho1 := HO.out.lay ((Lay.below (Below.refl _ _).drew).trans hl1))
    | (go_at_call 67; refine (RF.dput_any hd1.b HM.out oa ob u hul hob).mono ?_; rintro e w3 ⟨q, rfl, hs2⟩; obtain ⟨G1, T3, hd2, hr2, hl2⟩ := hd1.stf hs2 (fun _ hh => isWPut.sound hh hd1.b.snd); have ho2 := ho1.lay hl2)
    | (go_at_call 67; refine (RF.dput_any (HD.out.below (Below.refl _ _).drew).b HM.out oa ob u hul hob).mono ?_; rintro e w2 ⟨q, rfl, hs⟩; obtain ⟨G1, T3, hd1, hr2, hl1⟩ := (HD.out.below (Below.refl _ _).drew).stf hs (fun _ hh => isWPut.sound hh (HD.out.below (Below.refl _ _).drew).b.snd); have ho1 := HO.out.lay ((Lay.below (Below.refl _ _).drew).trans hl1))
    | (go_at_call 66; refine (walkPut_any hd1.a.tre oa ob u).mono ?_; rintro e w3 ⟨p, rfl, hs2⟩; obtain ⟨S1, T1, hd2, hr1, hl2⟩ := hd1.stp hs2 (fun _ hh => isWPut.sound hh hd1.a.snd); have ho2 := ho1.lay hl2))
 all_goals
  obtain ⟨hpq, hT⟩ := isWPut.one hr1 hr2
  subst hpq hT
  have hfin : Hid (Did7 n0 w0 w t r B n w3) := Hd ⟨S1, T1, G1, hd2, (HB0.out.wput hr1).mono (Nat.le_succ n), HM.out.wput hr1, HL.out.trans ((Lay.below (Below.refl _ _).drew).trans (hl1.trans hl2))⟩
  have hpp : (p == p) = true := by simp
  clear hd1 hd2 hr1 hr2 hl1 hl2 ho1 ho2
  go_wp2
  go_ret
  exact ⟨by show Ending.returned (.bool (p == p)) = _; rw [hpp], hfin.out⟩
theorem does7_drop {n0 : Nat} {w0 w : World} {t : Nat} {S : Tab} {T : IT.Tr} {r B : Nat} {G : RF.Gt} (h : Duo n0 w0 w t S T r B G T) {n : Nat} (hn : n ≤ 999990) (hn1 : 1 ≤ n) (hb : HB T n) (hm : MR T) (K cwd uid gid : Int) (s u : ByteArray) (mo N oa ob : Int) (k1 : ¬ K = 1) (k2 : ¬ K = 2) (k3 : ¬ K = 3) (k4 : ¬ K = 4) (k5 : ¬ K = 5) (k6 : ¬ K = 6) (k7 : ¬ K = 7) (k8 : ¬ K = 8) (k9 : ¬ K = 9) (k10 : ¬ K = 10) :
  Calls Tryz.prog 30 #[.pointer (some ⟨t, 0, none⟩), .pointer (some ⟨r, 0, none⟩), .agg #[.int .i64 K, .int .i64 cwd, .int .i64 uid, .int .i64 gid, .string s, .string u, .int .i64 mo, .int .i64 N, .int .i64 oa, .int .i64 ob]] w fun e w' => e = .returned (.bool true) ∧ Did7 n0 w0 w t r B n w' := by
 have HX := Hd (hb.mono (show n ≤ 999999 by omega))
 have HXX := Hd (hb.mono (show n ≤ 1000000 by omega))
 have HB0 := Hd hb
 have HM := Hd hm
 have HST := Hd (fun w1 hbb => does7_start h K cwd uid gid s u mo N oa ob (w1 := w1) hbb)
 have hop : op7 K cwd uid gid s u mo N oa ob = #[.int .i64 K, .int .i64 cwd, .int .i64 uid, .int .i64 gid, .string s, .string u, .int .i64 mo, .int .i64 N, .int .i64 oa, .int .i64 ob] := rfl
 rw [hop] at HST
 clear h hb hm hop
 have z1 : (K == 1) = false := by simpa using k1
 have z2 : (K == 2) = false := by simpa using k2
 have z3 : (K == 3) = false := by simpa using k3
 have z4 : (K == 4) = false := by simpa using k4
 have z5 : (K == 5) = false := by simpa using k5
 have z6 : (K == 6) = false := by simpa using k6
 have z7 : (K == 7) = false := by simpa using k7
 have z8 : (K == 8) = false := by simpa using k8
 have z9 : (K == 9) = false := by simpa using k9
 have z10 : (K == 10) = false := by simpa using k10
 clear k1 k2 k3 k4 k5 k6 k7 k8 k9 k10
 go_enter Tryz.func30, Tryz.ntmps30
 go_wp2_with fail
 refine (who_any uid gid _).mono ?_
 rintro e w1 ⟨rfl, hbb⟩
 obtain ⟨hd, ho, hl⟩ := HST.out w1 hbb
 unfold cred whoC
 dsimp only
 go_upto_region 2 with fail
 generalize w1.alloc (.cells #[.int .i64 uid, .int .i64 uid, .int .i64 uid, .int .i64 gid, .int .i64 gid] 36) = W at *
 obtain ⟨b5, hb5⟩ : ∃ b5, w.heap.size = b5 := ⟨_, rfl⟩
 obtain ⟨b6, hb6⟩ : ∃ b6, w1.heap.size = b6 := ⟨_, rfl⟩
 rw [hb5, hb6] at ho
 rw [hb5, hb6]
 have HD := Hd hd
 have HO := Hd ho
 have HL := Hd hl
 clear hd ho hl hbb HST hb5 hb6
 obtain ⟨o0, o1, o2, o3, o4, o5, o6, o7, o8, o9, c0, c1, c2, c3, c4⟩ := HO.out.cells
 have KP : ∀ W' : World, O7 W' b5 b6 K cwd uid gid s u mo N oa ob → (W'.cell? ⟨b5, 0, none⟩ = some (.int .i64 K) ∧ W'.cell? ⟨b5, 1, none⟩ = some (.int .i64 cwd) ∧ W'.cell? ⟨b5, 2, none⟩ = some (.int .i64 uid) ∧ W'.cell? ⟨b5, 3, none⟩ = some (.int .i64 gid) ∧ W'.cell? ⟨b5, 4, none⟩ = some (.string s) ∧ W'.cell? ⟨b5, 5, none⟩ = some (.string u) ∧ W'.cell? ⟨b5, 6, none⟩ = some (.int .i64 mo) ∧ W'.cell? ⟨b5, 7, none⟩ = some (.int .i64 N) ∧ W'.cell? ⟨b5, 8, none⟩ = some (.int .i64 oa) ∧ W'.cell? ⟨b5, 9, none⟩ = some (.int .i64 ob) ∧ W'.cell? ⟨b6, 0, none⟩ = some (.int .i64 uid) ∧ W'.cell? ⟨b6, 1, none⟩ = some (.int .i64 uid) ∧ W'.cell? ⟨b6, 2, none⟩ = some (.int .i64 uid) ∧ W'.cell? ⟨b6, 3, none⟩ = some (.int .i64 gid) ∧ W'.cell? ⟨b6, 4, none⟩ = some (.int .i64 gid)) := fun W' hh => hh.cells
 go_wp2_with fail
 go_region_held3 (fun W' => W'.cell? ⟨b5, 0, none⟩ = some (.int .i64 K) ∧ W'.cell? ⟨b5, 1, none⟩ = some (.int .i64 cwd) ∧ W'.cell? ⟨b5, 2, none⟩ = some (.int .i64 uid) ∧ W'.cell? ⟨b5, 3, none⟩ = some (.int .i64 gid) ∧ W'.cell? ⟨b5, 4, none⟩ = some (.string s) ∧ W'.cell? ⟨b5, 5, none⟩ = some (.string u) ∧ W'.cell? ⟨b5, 6, none⟩ = some (.int .i64 mo) ∧ W'.cell? ⟨b5, 7, none⟩ = some (.int .i64 N) ∧ W'.cell? ⟨b5, 8, none⟩ = some (.int .i64 oa) ∧ W'.cell? ⟨b5, 9, none⟩ = some (.int .i64 ob) ∧ W'.cell? ⟨b6, 0, none⟩ = some (.int .i64 uid) ∧ W'.cell? ⟨b6, 1, none⟩ = some (.int .i64 uid) ∧ W'.cell? ⟨b6, 2, none⟩ = some (.int .i64 uid) ∧ W'.cell? ⟨b6, 3, none⟩ = some (.int .i64 gid) ∧ W'.cell? ⟨b6, 4, none⟩ = some (.int .i64 gid))
  (first | (refine KP _ ?_; first | with_reducible exact HO.out | exact ho2 | exact ho1 | exact HO.out))
  (first
    | (go_at_call 46; refine (drop_any (HD.out.below (Below.refl _ _).drew).a.tre HXX.out oa).mono ?_; rintro e w2 ⟨p, rfl, hs⟩; obtain ⟨S1, T1, hd1, hr1, hl1⟩ := (HD.out.below (Below.refl _ _).drew).stp hs (fun _ hh => IT.isDrop.sound hh (HD.out.below (Below.refl _ _).drew).a.snd); have ho1 := HO.out.lay ((Lay.below (Below.refl _ _).drew).trans hl1))
    | (go_at_call 68; refine (RF.rf_drop hd1.b HXX.out oa).mono ?_; rintro e w3 ⟨q, rfl, hs2⟩; obtain ⟨G1, T3, hd2, hr2, hl2⟩ := hd1.stf hs2 (fun _ hh => IT.isDrop.sound hh hd1.b.snd); have ho2 := ho1.lay hl2)
    | (go_at_call 68; refine (RF.rf_drop (HD.out.below (Below.refl _ _).drew).b HXX.out oa).mono ?_; rintro e w2 ⟨q, rfl, hs⟩; obtain ⟨G1, T3, hd1, hr2, hl1⟩ := (HD.out.below (Below.refl _ _).drew).stf hs (fun _ hh => IT.isDrop.sound hh (HD.out.below (Below.refl _ _).drew).b.snd); have ho1 := HO.out.lay ((Lay.below (Below.refl _ _).drew).trans hl1))
    | (go_at_call 46; refine (drop_any hd1.a.tre HXX.out oa).mono ?_; rintro e w3 ⟨p, rfl, hs2⟩; obtain ⟨S1, T1, hd2, hr1, hl2⟩ := hd1.stp hs2 (fun _ hh => IT.isDrop.sound hh hd1.a.snd); have ho2 := ho1.lay hl2))
 all_goals
  obtain ⟨hpq, hT⟩ := IT.isDrop.one hr1 hr2
  subst hpq hT
  have hfin : Hid (Did7 n0 w0 w t r B n w3) := Hd ⟨S1, T1, G1, hd2, (HB0.out.drop hr1).mono (Nat.le_succ n), HM.out.drop hr1, HL.out.trans ((Lay.below (Below.refl _ _).drew).trans (hl1.trans hl2))⟩
  have hpp : (p == p) = true := by simp
  clear hd1 hd2 hr1 hr2 hl1 hl2 ho1 ho2
  go_wp2
  go_ret
  exact ⟨by show Ending.returned (.bool (p == p)) = _; rw [hpp], hfin.out⟩
theorem and7 (n : Int) : 0 ≤ bits .and .i64 n 7 ∧ bits .and .i64 n 7 ≤ 7 := by
 have h : bits .and .i64 n 7 = IntKind.i64.wrap (((BitVec.ofInt 64 n).toNat &&& 7 : Nat) : Int) := by
  simp only [bits, BitVec.toNat_and]; rfl
 have h7 : (BitVec.ofInt 64 n).toNat &&& 7 ≤ 7 := Nat.and_le_right
 rw [h, IntKind.wrap_i64]; omega
def how7 (mo N : Int) : Ho := ⟨bits .and .i64 N 7, bits .and .i64 N 8 != 0, bits .and .i64 N 16 != 0, bits .and .i64 N 32 != 0, false, mo⟩
theorem how_any (K cwd uid gid : Int) (s u : ByteArray) (mo N oa ob : Int) (w : World) :
  Calls Tryz.prog 10 #[.agg #[.int .i64 K, .int .i64 cwd, .int .i64 uid, .int .i64 gid, .string s, .string u, .int .i64 mo, .int .i64 N, .int .i64 oa, .int .i64 ob]] w fun e w' => e = .returned (howV (how7 mo N)) ∧ Below w.heap.size w w' := by
 unfold howV how7
 dsimp only
 go_enter Tryz.func10, Tryz.ntmps10
 go_wp2
 refine bodyPost_ret (v := .agg #[.int .i64 (bits .and .i64 N 7), .bool (bits .and .i64 N 8 != 0), .bool (bits .and .i64 N 16 != 0), .bool (bits .and .i64 N 32 != 0), .bool false, .int .i64 mo]) (by simp [results, Tryz.results10, go_sem]) rfl ⟨rfl, ?_⟩
 exact bZ (bZ (Below.refl _ _) _) _
theorem find_zero {T : IT.Tr} {c : Cr} {cwd : Int} {s : IT.Bytes} {k : Nat} {r : Int} (h : findT T c cwd s = (k, r)) : (if r = 0 then k else 0) = k := by
 unfold findT at h
 by_cases hr : r = 0
 · rw [if_pos hr]
 · rw [if_neg hr]
   split at h
   · cases h; rfl
   · split at h
     · cases h; rfl
     · split at h
       · cases h; rfl
       · cases h; exact absurd rfl hr
theorem does7_find {n0 : Nat} {w0 w : World} {t : Nat} {S : Tab} {T : IT.Tr} {r B : Nat} {G : RF.Gt} (h : Duo n0 w0 w t S T r B G T) {n : Nat} (hn : n ≤ 999990) (hn1 : 1 ≤ n) (hb : HB T n) (hm : MR T) (cwd uid gid : Int) (s u : ByteArray) (mo N oa ob : Int) (hsz : s.size ≤ 1048576) :
  Calls Tryz.prog 30 #[.pointer (some ⟨t, 0, none⟩), .pointer (some ⟨r, 0, none⟩), .agg #[.int .i64 1, .int .i64 cwd, .int .i64 uid, .int .i64 gid, .string s, .string u, .int .i64 mo, .int .i64 N, .int .i64 oa, .int .i64 ob]] w fun e w' => e = .returned (.bool true) ∧ Did7 n0 w0 w t r B n w' := by
 have HX := Hd (hb.mono (show n ≤ 999999 by omega))
 have HXX := Hd (hb.mono (show n ≤ 1000000 by omega))
 have HB0 := Hd hb
 have HM := Hd hm
 have HST := Hd (fun w1 hbb => does7_start h 1 cwd uid gid s u mo N oa ob (w1 := w1) hbb)
 have hop : op7 1 cwd uid gid s u mo N oa ob = #[.int .i64 1, .int .i64 cwd, .int .i64 uid, .int .i64 gid, .string s, .string u, .int .i64 mo, .int .i64 N, .int .i64 oa, .int .i64 ob] := rfl
 rw [hop] at HST
 clear h hb hm hop
 obtain ⟨⟨fk, fr⟩, hg⟩ : ∃ g, findT T (whoC uid gid) cwd (bs s) = g := ⟨_, rfl⟩
 have HG := Hd hg
 have HFZ := Hd (find_zero hg)
 clear hg
 go_enter Tryz.func30, Tryz.ntmps30
 go_wp2_with fail
 refine (who_any uid gid _).mono ?_
 rintro e w1 ⟨rfl, hbb⟩
 obtain ⟨hd, ho, hl⟩ := HST.out w1 hbb
 unfold cred whoC
 dsimp only
 go_upto_region 2 with fail
 generalize w1.alloc (.cells #[.int .i64 uid, .int .i64 uid, .int .i64 uid, .int .i64 gid, .int .i64 gid] 36) = W at *
 obtain ⟨b5, hb5⟩ : ∃ b5, w.heap.size = b5 := ⟨_, rfl⟩
 obtain ⟨b6, hb6⟩ : ∃ b6, w1.heap.size = b6 := ⟨_, rfl⟩
 rw [hb5, hb6] at ho
 rw [hb5, hb6]
 have HD := Hd hd
 have HO := Hd ho
 have HL := Hd hl
 clear hd ho hl hbb HST hb5 hb6
 obtain ⟨o0, o1, o2, o3, o4, o5, o6, o7, o8, o9, c0, c1, c2, c3, c4⟩ := HO.out.cells
 have KP : ∀ W' : World, O7 W' b5 b6 1 cwd uid gid s u mo N oa ob → (W'.cell? ⟨b5, 0, none⟩ = some (.int .i64 1) ∧ W'.cell? ⟨b5, 1, none⟩ = some (.int .i64 cwd) ∧ W'.cell? ⟨b5, 2, none⟩ = some (.int .i64 uid) ∧ W'.cell? ⟨b5, 3, none⟩ = some (.int .i64 gid) ∧ W'.cell? ⟨b5, 4, none⟩ = some (.string s) ∧ W'.cell? ⟨b5, 5, none⟩ = some (.string u) ∧ W'.cell? ⟨b5, 6, none⟩ = some (.int .i64 mo) ∧ W'.cell? ⟨b5, 7, none⟩ = some (.int .i64 N) ∧ W'.cell? ⟨b5, 8, none⟩ = some (.int .i64 oa) ∧ W'.cell? ⟨b5, 9, none⟩ = some (.int .i64 ob) ∧ W'.cell? ⟨b6, 0, none⟩ = some (.int .i64 uid) ∧ W'.cell? ⟨b6, 1, none⟩ = some (.int .i64 uid) ∧ W'.cell? ⟨b6, 2, none⟩ = some (.int .i64 uid) ∧ W'.cell? ⟨b6, 3, none⟩ = some (.int .i64 gid) ∧ W'.cell? ⟨b6, 4, none⟩ = some (.int .i64 gid)) := fun W' hh => hh.cells
 have hfin0 : ∀ W', Below W.heap.size W W' → Did7 n0 w0 w t r B n W' := fun W' hbl => ⟨S, T, G, HD.out.below hbl, HB0.out.mono (Nat.le_succ n), HM.out, HL.out.trans (Lay.below hbl)⟩
 have HFIN := Hd hfin0
 clear hfin0
 go_wp2_with fail
 refine (walkFind_any HD.out.a.tre cwd (whoC uid gid) s HG.out).mono ?_
 rintro e w2 ⟨rfl, hb2⟩
 rw [HFZ.out]
 have HO2 := Hd (HO.out.lay (Lay.below hb2))
 have HD2 := Hd (HD.out.below hb2)
 have HB2 := Hd hb2
 clear hb2 o0 o1 o2 o3 o4 o5 o6 o7 o8 o9 c0 c1 c2 c3 c4
 obtain ⟨o0, o1, o2, o3, o4, o5, o6, o7, o8, o9, c0, c1, c2, c3, c4⟩ := HO2.out.cells
 go_wp2_with fail
 refine (RF.dfind_any HD2.out.b HM.out cwd (whoC uid gid) s hsz).mono ?_
 rintro e w3 ⟨rfl, hb3⟩
 rw [HG.out]
 have HE := Hd (HFIN.out w3 (HB2.out.trans (hb3.mono HB2.out.size)))
 clear hb3
 go_wp2
 go_ret
 exact ⟨rfl, HE.out⟩
theorem does7_parent {n0 : Nat} {w0 w : World} {t : Nat} {S : Tab} {T : IT.Tr} {r B : Nat} {G : RF.Gt} (h : Duo n0 w0 w t S T r B G T) {n : Nat} (hn : n ≤ 999990) (hn1 : 1 ≤ n) (hb : HB T n) (hm : MR T) (cwd uid gid : Int) (s u : ByteArray) (mo N oa ob : Int) (hsz : s.size ≤ 1048576) :
  Calls Tryz.prog 30 #[.pointer (some ⟨t, 0, none⟩), .pointer (some ⟨r, 0, none⟩), .agg #[.int .i64 2, .int .i64 cwd, .int .i64 uid, .int .i64 gid, .string s, .string u, .int .i64 mo, .int .i64 N, .int .i64 oa, .int .i64 ob]] w fun e w' => e = .returned (.bool true) ∧ Did7 n0 w0 w t r B n w' := by
 have HX := Hd (hb.mono (show n ≤ 999999 by omega))
 have HXX := Hd (hb.mono (show n ≤ 1000000 by omega))
 have HB0 := Hd hb
 have HM := Hd hm
 have HST := Hd (fun w1 hbb => does7_start h 2 cwd uid gid s u mo N oa ob (w1 := w1) hbb)
 have hop : op7 2 cwd uid gid s u mo N oa ob = #[.int .i64 2, .int .i64 cwd, .int .i64 uid, .int .i64 gid, .string s, .string u, .int .i64 mo, .int .i64 N, .int .i64 oa, .int .i64 ob] := rfl
 rw [hop] at HST
 clear h hb hm hop
 go_enter Tryz.func30, Tryz.ntmps30
 go_wp2_with fail
 refine (who_any uid gid _).mono ?_
 rintro e w1 ⟨rfl, hbb⟩
 obtain ⟨hd, ho, hl⟩ := HST.out w1 hbb
 unfold cred whoC
 dsimp only
 go_upto_region 2 with fail
 generalize w1.alloc (.cells #[.int .i64 uid, .int .i64 uid, .int .i64 uid, .int .i64 gid, .int .i64 gid] 36) = W at *
 obtain ⟨b5, hb5⟩ : ∃ b5, w.heap.size = b5 := ⟨_, rfl⟩
 obtain ⟨b6, hb6⟩ : ∃ b6, w1.heap.size = b6 := ⟨_, rfl⟩
 rw [hb5, hb6] at ho
 rw [hb5, hb6]
 have HD := Hd hd
 have HO := Hd ho
 have HL := Hd hl
 clear hd ho hl hbb HST hb5 hb6
 obtain ⟨o0, o1, o2, o3, o4, o5, o6, o7, o8, o9, c0, c1, c2, c3, c4⟩ := HO.out.cells
 have KP : ∀ W' : World, O7 W' b5 b6 2 cwd uid gid s u mo N oa ob → (W'.cell? ⟨b5, 0, none⟩ = some (.int .i64 2) ∧ W'.cell? ⟨b5, 1, none⟩ = some (.int .i64 cwd) ∧ W'.cell? ⟨b5, 2, none⟩ = some (.int .i64 uid) ∧ W'.cell? ⟨b5, 3, none⟩ = some (.int .i64 gid) ∧ W'.cell? ⟨b5, 4, none⟩ = some (.string s) ∧ W'.cell? ⟨b5, 5, none⟩ = some (.string u) ∧ W'.cell? ⟨b5, 6, none⟩ = some (.int .i64 mo) ∧ W'.cell? ⟨b5, 7, none⟩ = some (.int .i64 N) ∧ W'.cell? ⟨b5, 8, none⟩ = some (.int .i64 oa) ∧ W'.cell? ⟨b5, 9, none⟩ = some (.int .i64 ob) ∧ W'.cell? ⟨b6, 0, none⟩ = some (.int .i64 uid) ∧ W'.cell? ⟨b6, 1, none⟩ = some (.int .i64 uid) ∧ W'.cell? ⟨b6, 2, none⟩ = some (.int .i64 uid) ∧ W'.cell? ⟨b6, 3, none⟩ = some (.int .i64 gid) ∧ W'.cell? ⟨b6, 4, none⟩ = some (.int .i64 gid)) := fun W' hh => hh.cells
 have hfin0 : ∀ W', Below W.heap.size W W' → Did7 n0 w0 w t r B n W' := fun W' hbl => ⟨S, T, G, HD.out.below hbl, HB0.out.mono (Nat.le_succ n), HM.out, HL.out.trans (Lay.below hbl)⟩
 have HFIN := Hd hfin0
 clear hfin0
 obtain ⟨pd, pn, pm, pe, hpw, hpv⟩ : ∃ (pd : Int) (pn : ByteArray) (pm : Bool) (pe : Int), parW (entryT T (whoC uid gid) cwd (bs s)) = .tuple #[.int .i64 pd, .string pn, .int .i64 pe] ∧ RF.parV (entryT T (whoC uid gid) cwd (bs s)) = .tuple #[.int .i64 pd, .string pn, .bool pm, .int .i64 pe] := by
  cases entryT T (whoC uid gid) cwd (bs s) with
  | error e => exact ⟨_, _, _, _, rfl, rfl⟩
  | ok x => exact ⟨_, _, _, _, rfl, rfl⟩
 have HPW := Hd (walkParent_any HD.out.a.tre cwd (whoC uid gid) s)
 rw [hpw] at HPW
 have HPV := Hd hpv
 clear hpw hpv
 go_wp2_with fail
 refine HPW.out.mono ?_
 rintro e w2 ⟨rfl, hb2⟩
 have HO2 := Hd (HO.out.lay (Lay.below hb2))
 have HB2 := Hd hb2
 have HDV := Hd (RF.dparent_any (HD.out.below hb2).b HM.out cwd (whoC uid gid) s hsz)
 rw [HPV.out] at HDV
 clear hb2 o0 o1 o2 o3 o4 o5 o6 o7 o8 o9 c0 c1 c2 c3 c4 HPW
 obtain ⟨o0, o1, o2, o3, o4, o5, o6, o7, o8, o9, c0, c1, c2, c3, c4⟩ := HO2.out.cells
 go_wp2_with fail
 refine HDV.out.mono ?_
 rintro e w3 ⟨rfl, hb3⟩
 have HE := Hd (HFIN.out w3 (HB2.out.trans (hb3.mono HB2.out.size)))
 clear hb3
 go_wp2
 go_ret
 exact ⟨rfl, HE.out⟩
theorem does7_open {n0 : Nat} {w0 w : World} {t : Nat} {S : Tab} {T : IT.Tr} {r B : Nat} {G : RF.Gt} (h : Duo n0 w0 w t S T r B G T) {n : Nat} (hn : n ≤ 999990) (hn1 : 1 ≤ n) (hb : HB T n) (hm : MR T) (cwd uid gid : Int) (s u : ByteArray) (mo N oa ob : Int) (hsz : s.size ≤ 1048576) (hmo : mo < 9223372036854775808) :
  Calls Tryz.prog 30 #[.pointer (some ⟨t, 0, none⟩), .pointer (some ⟨r, 0, none⟩), .agg #[.int .i64 3, .int .i64 cwd, .int .i64 uid, .int .i64 gid, .string s, .string u, .int .i64 mo, .int .i64 N, .int .i64 oa, .int .i64 ob]] w fun e w' => e = .returned (.bool true) ∧ Did7 n0 w0 w t r B n w' := by
 have HX := Hd (hb.mono (show n ≤ 999999 by omega))
 have HXX := Hd (hb.mono (show n ≤ 1000000 by omega))
 have HB0 := Hd hb
 have HM := Hd hm
 have HST := Hd (fun w1 hbb => does7_start h 3 cwd uid gid s u mo N oa ob (w1 := w1) hbb)
 have hop : op7 3 cwd uid gid s u mo N oa ob = #[.int .i64 3, .int .i64 cwd, .int .i64 uid, .int .i64 gid, .string s, .string u, .int .i64 mo, .int .i64 N, .int .i64 oa, .int .i64 ob] := rfl
 rw [hop] at HST
 clear h hb hm hop
 go_enter Tryz.func30, Tryz.ntmps30
 go_wp2_with fail
 refine (who_any uid gid _).mono ?_
 rintro e w1 ⟨rfl, hbb⟩
 obtain ⟨hd, ho, hl⟩ := HST.out w1 hbb
 unfold cred whoC
 dsimp only
 go_upto_region 2 with fail
 generalize w1.alloc (.cells #[.int .i64 uid, .int .i64 uid, .int .i64 uid, .int .i64 gid, .int .i64 gid] 36) = W at *
 obtain ⟨b5, hb5⟩ : ∃ b5, w.heap.size = b5 := ⟨_, rfl⟩
 obtain ⟨b6, hb6⟩ : ∃ b6, w1.heap.size = b6 := ⟨_, rfl⟩
 rw [hb5, hb6] at ho
 rw [hb5, hb6]
 have HD := Hd hd
 have HO := Hd ho
 have HL := Hd hl
 clear hd ho hl hbb HST hb5 hb6
 obtain ⟨o0, o1, o2, o3, o4, o5, o6, o7, o8, o9, c0, c1, c2, c3, c4⟩ := HO.out.cells
 have KP : ∀ W' : World, O7 W' b5 b6 3 cwd uid gid s u mo N oa ob → (W'.cell? ⟨b5, 0, none⟩ = some (.int .i64 3) ∧ W'.cell? ⟨b5, 1, none⟩ = some (.int .i64 cwd) ∧ W'.cell? ⟨b5, 2, none⟩ = some (.int .i64 uid) ∧ W'.cell? ⟨b5, 3, none⟩ = some (.int .i64 gid) ∧ W'.cell? ⟨b5, 4, none⟩ = some (.string s) ∧ W'.cell? ⟨b5, 5, none⟩ = some (.string u) ∧ W'.cell? ⟨b5, 6, none⟩ = some (.int .i64 mo) ∧ W'.cell? ⟨b5, 7, none⟩ = some (.int .i64 N) ∧ W'.cell? ⟨b5, 8, none⟩ = some (.int .i64 oa) ∧ W'.cell? ⟨b5, 9, none⟩ = some (.int .i64 ob) ∧ W'.cell? ⟨b6, 0, none⟩ = some (.int .i64 uid) ∧ W'.cell? ⟨b6, 1, none⟩ = some (.int .i64 uid) ∧ W'.cell? ⟨b6, 2, none⟩ = some (.int .i64 uid) ∧ W'.cell? ⟨b6, 3, none⟩ = some (.int .i64 gid) ∧ W'.cell? ⟨b6, 4, none⟩ = some (.int .i64 gid)) := fun W' hh => hh.cells
 have HHW := Hd (fun W' => how_any 3 cwd uid gid s u mo N oa ob W')
 obtain ⟨h0, h7⟩ := and7 N
 obtain ⟨ho, hho⟩ : ∃ ho, how7 mo N = ho := ⟨_, rfl⟩
 have hw0 : 0 ≤ ho.want := by rw [← hho]; exact h0
 have hw7 : ho.want ≤ 7 := by rw [← hho]; exact h7
 have hwm : ho.mode < 9223372036854775808 := by rw [← hho]; exact hmo
 rw [hho] at HHW
 have HW0 := Hd hw0
 have HW7 := Hd hw7
 have HWM := Hd hwm
 clear hw0 hw7 hwm h0 h7 hho hmo
 go_wp2_with fail
 go_region_held3 (fun W' => W'.cell? ⟨b5, 0, none⟩ = some (.int .i64 3) ∧ W'.cell? ⟨b5, 1, none⟩ = some (.int .i64 cwd) ∧ W'.cell? ⟨b5, 2, none⟩ = some (.int .i64 uid) ∧ W'.cell? ⟨b5, 3, none⟩ = some (.int .i64 gid) ∧ W'.cell? ⟨b5, 4, none⟩ = some (.string s) ∧ W'.cell? ⟨b5, 5, none⟩ = some (.string u) ∧ W'.cell? ⟨b5, 6, none⟩ = some (.int .i64 mo) ∧ W'.cell? ⟨b5, 7, none⟩ = some (.int .i64 N) ∧ W'.cell? ⟨b5, 8, none⟩ = some (.int .i64 oa) ∧ W'.cell? ⟨b5, 9, none⟩ = some (.int .i64 ob) ∧ W'.cell? ⟨b6, 0, none⟩ = some (.int .i64 uid) ∧ W'.cell? ⟨b6, 1, none⟩ = some (.int .i64 uid) ∧ W'.cell? ⟨b6, 2, none⟩ = some (.int .i64 uid) ∧ W'.cell? ⟨b6, 3, none⟩ = some (.int .i64 gid) ∧ W'.cell? ⟨b6, 4, none⟩ = some (.int .i64 gid))
  (first | (refine KP _ ?_; first | with_reducible exact HO.out | exact ho3 | exact ho2 | exact HO.out))
  (first
    | (go_at_call 10; refine (HHW.out _).mono ?_; rintro e w2 ⟨rfl, hb2⟩; have hbw : Below W.heap.size W w2 := (Below.refl W.heap.size W).drew.trans hb2; have ho2 := HO.out.lay (Lay.below hbw))
    | (go_at_call 16; refine (walkOpen_any (HD.out.below hbw).a.tre HX.out cwd (whoC uid gid) s ho).mono ?_; rintro e w3 ⟨i1, r1, rfl, hst⟩; obtain ⟨S1, T1, hd3, hr1, hl3⟩ := (HD.out.below hbw).stp hst (fun _ hh => isOpen.sound hh HD.out.a.snd); have ho3 := ho2.lay hl3))
 have HO3 := Hd ho3
 have HD3 := Hd hd3
 have HR1 := Hd hr1
 have HL3 := Hd (HL.out.trans ((Lay.below hbw).trans hl3))
 clear ho2 ho3 hd3 hr1 hl3 hbw HO HD HL
 have KP2 := KP
 clear o0 o1 o2 o3 o4 o5 o6 o7 o8 o9 c0 c1 c2 c3 c4
 obtain ⟨o0, o1, o2, o3, o4, o5, o6, o7, o8, o9, c0, c1, c2, c3, c4⟩ := HO3.out.cells
 go_wp2_with fail
 go_region_held3 (fun W' => W'.cell? ⟨b5, 0, none⟩ = some (.int .i64 3) ∧ W'.cell? ⟨b5, 1, none⟩ = some (.int .i64 cwd) ∧ W'.cell? ⟨b5, 2, none⟩ = some (.int .i64 uid) ∧ W'.cell? ⟨b5, 3, none⟩ = some (.int .i64 gid) ∧ W'.cell? ⟨b5, 4, none⟩ = some (.string s) ∧ W'.cell? ⟨b5, 5, none⟩ = some (.string u) ∧ W'.cell? ⟨b5, 6, none⟩ = some (.int .i64 mo) ∧ W'.cell? ⟨b5, 7, none⟩ = some (.int .i64 N) ∧ W'.cell? ⟨b5, 8, none⟩ = some (.int .i64 oa) ∧ W'.cell? ⟨b5, 9, none⟩ = some (.int .i64 ob) ∧ W'.cell? ⟨b6, 0, none⟩ = some (.int .i64 uid) ∧ W'.cell? ⟨b6, 1, none⟩ = some (.int .i64 uid) ∧ W'.cell? ⟨b6, 2, none⟩ = some (.int .i64 uid) ∧ W'.cell? ⟨b6, 3, none⟩ = some (.int .i64 gid) ∧ W'.cell? ⟨b6, 4, none⟩ = some (.int .i64 gid))
  (first | (refine KP _ ?_; first | with_reducible exact HO3.out | exact ho5 | exact ho4 | exact HO3.out))
  (first
    | (go_at_call 10; refine (HHW.out _).mono ?_; rintro e w4 ⟨rfl, hb4⟩; have hbw : Below w3.heap.size w3 w4 := (Below.refl w3.heap.size w3).drew.trans hb4; have ho4 := HO3.out.lay (Lay.below hbw))
    | (go_at_call 59; refine (RF.dopen_any (HD3.out.below hbw).b HM.out HX.out cwd (whoC uid gid) s hsz ho HWM.out HW0.out HW7.out).mono ?_; rintro e w5 ⟨i2, r2, rfl, hst⟩; obtain ⟨G1, T3, hd5, hr2, hl5⟩ := (HD3.out.below hbw).stf hst (fun _ hh => isOpen.sound hh HD3.out.b.snd); have ho5 := ho4.lay hl5))
 obtain ⟨rfl, rfl, rfl⟩ := HR1.out.one hr2
 have HE : Hid (Did7 n0 w0 w t r B n w5) := Hd ⟨S1, T1, G1, hd5, HB0.out.wopen hn1 hr2, HM.out.wopen hr2, HL3.out.trans ((Lay.below hbw).trans hl5)⟩
 clear hd5 hr2 hl5 hbw ho4 ho5
 go_wp2
 go_ret
 exact ⟨rfl, HE.out⟩
theorem does7_any {n0 : Nat} {w0 w : World} {t : Nat} {S : Tab} {T : IT.Tr} {r B : Nat} {G : RF.Gt} (h : Duo n0 w0 w t S T r B G T) {n : Nat} (hn : n ≤ 999990) (hn1 : 1 ≤ n) (hb : HB T n) (hm : MR T) (K cwd uid gid : Int) (s u : ByteArray) (mo N oa ob : Int) (hsz : s.size ≤ 1048576) (husz : u.size ≤ 1048576) (hmo : mo < 9223372036854775808) (hob : -9223372036854775808 ≤ ob) :
  Calls Tryz.prog 30 #[.pointer (some ⟨t, 0, none⟩), .pointer (some ⟨r, 0, none⟩), .agg #[.int .i64 K, .int .i64 cwd, .int .i64 uid, .int .i64 gid, .string s, .string u, .int .i64 mo, .int .i64 N, .int .i64 oa, .int .i64 ob]] w fun e w' => e = .returned (.bool true) ∧ Did7 n0 w0 w t r B n w' := by
 by_cases k1 : K = 1
 · subst k1; exact does7_find h hn hn1 hb hm cwd uid gid s u mo N oa ob hsz
 by_cases k2 : K = 2
 · subst k2; exact does7_parent h hn hn1 hb hm cwd uid gid s u mo N oa ob hsz
 by_cases k3 : K = 3
 · subst k3; exact does7_open h hn hn1 hb hm cwd uid gid s u mo N oa ob hsz hmo
 by_cases k4 : K = 4
 · subst k4; exact does7_mkdir h hn hn1 hb hm cwd uid gid s u mo N oa ob hsz hmo
 by_cases k5 : K = 5
 · subst k5; exact does7_remove h hn hn1 hb hm cwd uid gid s u mo N oa ob hsz
 by_cases k6 : K = 6
 · subst k6; exact does7_link h hn hn1 hb hm cwd uid gid s u mo N oa ob hsz husz
 by_cases k7 : K = 7
 · subst k7; exact does7_rename h hn hn1 hb hm cwd uid gid s u mo N oa ob hsz husz
 by_cases k8 : K = 8
 · subst k8; exact does7_chmod h hn hn1 hb hm cwd uid gid s u mo N oa ob hsz hmo
 by_cases k9 : K = 9
 · subst k9; exact does7_chown h hn hn1 hb hm cwd uid gid s u mo N oa ob hsz
 by_cases k10 : K = 10
 · subst k10; exact does7_put h hn hn1 hb hm cwd uid gid s u mo N oa ob (by unfold maxLen; omega) hob
 · exact does7_drop h hn hn1 hb hm K cwd uid gid s u mo N oa ob k1 k2 k3 k4 k5 k6 k7 k8 k9 k10
end Go.Proofs.YtafonmnfeibaiaaGreat
namespace Go.Proofs.YtafonmnfeibaiaaGreat
open Go.ChangeShapes Go.WideShapes Go.ChangeAt Go.RowKit
theorem bulk_mem {H : Type} {d : DataW H} : ∀ {l : List (DataW H)}, d ∈ l → Rows.uptoBulk d ≤ Rows.uptoBulkAll l
 | [], h => by cases h
 | e :: l, h => by
   rw [Rows.uptoBulkAll]
   rcases List.mem_cons.1 h with rfl | h
   · omega
   · have := bulk_mem h; omega
theorem op7Cells9 : Tryz.prog.cellsOf 9 = 1 := by kernel_rfl
theorem op7Cells3 : Tryz.prog.cellsOf 3 = 1 := by kernel_rfl
theorem op7Cells : Tryz.prog.cellsOf 24 = 10 := by kernel_rfl
theorem op7_drop {cs : List Value} {k : Nat} {v : Value} (h : (cs.drop k).take 1 = [v]) : cs[k]? = some v := by
 have := congrArg (fun l : List Value => l[0]?) h
 simpa using this
theorem op7_wf {a : Int} (h : (Lit.int .i64 a).wf = true) : -9223372036854775808 ≤ a ∧ a < 9223372036854775808 := by
 simp only [Lit.wf, Bool.and_eq_true, decide_eq_true_eq] at h
 exact ⟨h.1, by have := h.2; change a ≤ 9223372036854775807 at this; omega⟩
theorem op7_int {H : Type} {enc : TypeId × Value → H} {W : World} {sp : Nat → Bool} {n : Nat} {cs : List Value} {k : Nat} {y : DataW H × List MemPlace} (h : DataW.trod enc Tryz.prog W 0 sp true n 3 ((cs.drop k).take (Tryz.prog.cellsOf 3)) = some y) : ∃ v : Int, cs[k]? = some (.int .i64 v) ∧ -9223372036854775808 ≤ v ∧ v < 9223372036854775808 := by
 rw [op7Cells3] at h
 obtain ⟨v, e, _, hw⟩ := DataW.trod_int Tryz.underlying3 h
 exact ⟨v, op7_drop e, op7_wf hw⟩
theorem op7_str {H : Type} {enc : TypeId × Value → H} {W : World} {sp : Nat → Bool} {n : Nat} {cs : List Value} {xs : List (DataW H × List MemPlace)} {k j : Nat} {y : DataW H × List MemPlace} (h : DataW.trod enc Tryz.prog W 0 sp true n 9 ((cs.drop k).take (Tryz.prog.cellsOf 9)) = some y) (hx : xs[j]? = some y) (hb : Rows.uptoBulk (.agg (xs.map (·.1)) : DataW H) ≤ 1048576) : ∃ s : ByteArray, cs[k]? = some (.string s) ∧ s.size ≤ 1048576 := by
 rw [op7Cells9] at h
 obtain ⟨s, e, rfl, _⟩ := DataW.trod_string Tryz.underlying9 h
 refine ⟨s, op7_drop e, ?_⟩
 have hm : (DataW.lit (.string s.data.toList) : DataW H) ∈ xs.map (·.1) := List.mem_map.2 ⟨_, List.mem_of_getElem? hx, rfl⟩
 have h1 := bulk_mem hm
 rw [Rows.uptoBulk] at hb
 rw [Rows.uptoBulk] at h1
 have h2 : s.data.toList.length = s.size := by simp
 omega
theorem op7_opened {H : Type} {enc : TypeId × Value → H} {W : World} {sp : Nat → Bool} {fuel : Nat} {cs : List Value} {x : DataW H × List MemPlace} (h : DataW.trod enc Tryz.prog W 0 sp true fuel 24 cs = some x) (hb : Rows.uptoBulk x.1 ≤ 1048576) :
  ∃ (K cwd uid gid : Int) (s u : ByteArray) (mo N oa ob : Int), mo < 9223372036854775808 ∧ -9223372036854775808 ≤ ob ∧ s.size ≤ 1048576 ∧ u.size ≤ 1048576 ∧ (-9223372036854775808 ≤ cwd ∧ cwd < 9223372036854775808) ∧ ∀ i, i < 10 → cs[i]? = (op7 K cwd uid gid s u mo N oa ob)[i]? := by
 obtain ⟨xs, n, _, rfl, hl, hlen, hf⟩ := DataW.trod_struct Tryz.underlying24 h
 have hx : ∀ i, i < 10 → ∃ y, xs[i]? = some y := fun i hi => ⟨_, List.getElem?_eq_getElem (by rw [hlen]; exact hi)⟩
 obtain ⟨y0, e0⟩ := hx 0 (by decide)
 obtain ⟨y1, e1⟩ := hx 1 (by decide)
 obtain ⟨y2, e2⟩ := hx 2 (by decide)
 obtain ⟨y3, e3⟩ := hx 3 (by decide)
 obtain ⟨y4, e4⟩ := hx 4 (by decide)
 obtain ⟨y5, e5⟩ := hx 5 (by decide)
 obtain ⟨y6, e6⟩ := hx 6 (by decide)
 obtain ⟨y7, e7⟩ := hx 7 (by decide)
 obtain ⟨y8, e8⟩ := hx 8 (by decide)
 obtain ⟨y9, e9⟩ := hx 9 (by decide)
 obtain ⟨K, c0, _⟩ := op7_int ((hf 0 _ rfl).trans e0)
 obtain ⟨cwd, c1, w1⟩ := op7_int ((hf 1 _ rfl).trans e1)
 obtain ⟨uid, c2, _⟩ := op7_int ((hf 2 _ rfl).trans e2)
 obtain ⟨gid, c3, _⟩ := op7_int ((hf 3 _ rfl).trans e3)
 obtain ⟨s, c4, z4⟩ := op7_str ((hf 4 _ rfl).trans e4) e4 hb
 obtain ⟨u, c5, z5⟩ := op7_str ((hf 5 _ rfl).trans e5) e5 hb
 obtain ⟨mo, c6, _, h1⟩ := op7_int ((hf 6 _ rfl).trans e6)
 obtain ⟨N, c7, _⟩ := op7_int ((hf 7 _ rfl).trans e7)
 obtain ⟨oa, c8, _⟩ := op7_int ((hf 8 _ rfl).trans e8)
 obtain ⟨ob, c9, h2, _⟩ := op7_int ((hf 9 _ rfl).trans e9)
 refine ⟨K, cwd, uid, gid, s, u, mo, N, oa, ob, h1, h2, z4, z5, w1, fun i hi => ?_⟩
 obtain rfl | rfl | rfl | rfl | rfl | rfl | rfl | rfl | rfl | rfl : i = 0 ∨ i = 1 ∨ i = 2 ∨ i = 3 ∨ i = 4 ∨ i = 5 ∨ i = 6 ∨ i = 7 ∨ i = 8 ∨ i = 9 := by omega
 · exact c0
 · exact c1
 · exact c2
 · exact c3
 · exact c4
 · exact c5
 · exact c6
 · exact c7
 · exact c8
 · exact c9
theorem op7_add (b o j : Nat) : (⟨b, o, none⟩ : Addr).add j = ⟨b, o + j, none⟩ := by
 cases j <;> rfl
theorem op7_cells_get {W : World} {a : Addr} {n : Nat} {cs : List Value} (h : W.cells? 0 a n = some cs) (i : Nat) (hi : i < n) : W.cell? (a.add i) = cs[i]? := by
 unfold World.cells? at h
 rw [if_pos (Nat.zero_le _)] at h
 exact mapM_some_get h i i (by simp [hi])
def Ops7 (W : World) (n : Nat) (a : Option Addr) (len : Nat) : Prop := ∀ k, k < len → ∃ (b off : Nat) (K cwd uid gid : Int) (s u : ByteArray) (mo N oa ob : Int), a = some ⟨b, off, none⟩ ∧ b < n ∧ mo < 9223372036854775808 ∧ -9223372036854775808 ≤ ob ∧ s.size ≤ 1048576 ∧ u.size ≤ 1048576 ∧
 W.cell? ⟨b, off + k * 10, none⟩ = some (.int .i64 K) ∧ W.cell? ⟨b, off + k * 10 + 1, none⟩ = some (.int .i64 cwd) ∧ W.cell? ⟨b, off + k * 10 + 2, none⟩ = some (.int .i64 uid) ∧ W.cell? ⟨b, off + k * 10 + 3, none⟩ = some (.int .i64 gid) ∧ W.cell? ⟨b, off + k * 10 + 4, none⟩ = some (.string s) ∧ W.cell? ⟨b, off + k * 10 + 5, none⟩ = some (.string u) ∧ W.cell? ⟨b, off + k * 10 + 6, none⟩ = some (.int .i64 mo) ∧ W.cell? ⟨b, off + k * 10 + 7, none⟩ = some (.int .i64 N) ∧ W.cell? ⟨b, off + k * 10 + 8, none⟩ = some (.int .i64 oa) ∧ W.cell? ⟨b, off + k * 10 + 9, none⟩ = some (.int .i64 ob)
theorem ops7_of {H : Type} {enc : TypeId × Value → H} {W : World} {a : Option Addr} {len cap : Nat} {d : DataW H} {p : List MemPlace} (h : ∃ n, DataW.trod enc Tryz.prog W 0 (fun _ => true) true n 22 (Value.cells (.slice a len cap)).toList = some (d, p)) (hb : Rows.uptoBulk d ≤ 1048576) :
  len ≤ maxLen ∧ Ops7 W W.heap.size a len := by
 obtain ⟨fuel, hf⟩ := h
 rcases DataW.trod_slice Tryz.underlying22 hf with ⟨hcs, _⟩ | ⟨x, l, c, elems, rest, n, _, hcs, hx, _, hl, hm, hlen, hel, _, _⟩
 · simp [Value.cells] at hcs
   obtain ⟨rfl, rfl, rfl⟩ := hcs
   exact ⟨Nat.zero_le _, fun j hj => absurd hj (Nat.not_lt_zero j)⟩
 · simp [Value.cells] at hcs
   obtain ⟨rfl, rfl, rfl⟩ := hcs
   simp only [Prod.mk.injEq] at hx
   obtain ⟨rfl, rfl⟩ := hx
   rw [Rows.uptoBulk] at hb
   have each : ∀ j, j < len → ∃ (K cwd uid gid : Int) (s u : ByteArray) (mo N oa ob : Int), mo < 9223372036854775808 ∧ -9223372036854775808 ≤ ob ∧ s.size ≤ 1048576 ∧ u.size ≤ 1048576 ∧ (-9223372036854775808 ≤ cwd ∧ cwd < 9223372036854775808) ∧ ∀ i, i < 10 → W.cell? ((x.add (j * 10)).add i) = (op7 K cwd uid gid s u mo N oa ob)[i]? := fun j hj => by
    obtain ⟨y, hy⟩ : ∃ y, elems[j]? = some y := ⟨_, List.getElem?_eq_getElem (by rw [hlen]; exact hj)⟩
    have h1 := hel j hj
    rw [op7Cells, hy] at h1
    simp only [Option.bind_eq_some_iff] at h1
    obtain ⟨cs', h2, h3⟩ := h1
    have hm2 : y.1 ∈ elems.map (·.1) := List.mem_map.2 ⟨_, List.mem_of_getElem? hy, rfl⟩
    have h4 := bulk_mem hm2
    obtain ⟨K, cwd, uid, gid, s, u, mo, N, oa, ob, q1, q2, q3, q4, q5, q6⟩ := op7_opened h3 (by omega)
    exact ⟨K, cwd, uid, gid, s, u, mo, N, oa, ob, q1, q2, q3, q4, q5, fun i hi => (op7_cells_get h2 i hi).trans (q6 i hi)⟩
   refine ⟨by omega, fun j hj => ?_⟩
   obtain ⟨b, off, spot⟩ := x
   obtain ⟨K0, _, _, _, _, _, _, _, _, _, _, _, _, _, _, g0⟩ := each 0 (by omega)
   have h00 : W.cell? (((⟨b, off, spot⟩ : Addr).add (0 * 10)).add 0) = some (.int .i64 K0) := g0 0 (by decide)
   have hspot : spot = none := by simpa [Addr.add] using World.cell?_spot h00
   subst hspot
   obtain ⟨K, cwd, uid, gid, s, u, mo, N, oa, ob, e1, e2, e3, e4, _, e5⟩ := each j hj
   have q : ∀ i, i < 10 → W.cell? ⟨b, off + j * 10 + i, none⟩ = (op7 K cwd uid gid s u mo N oa ob)[i]? := fun i hi => by
    have := e5 i hi
    rw [op7_add, op7_add] at this
    exact this
   have q0 : W.cell? ⟨b, off + j * 10, none⟩ = some (.int .i64 K) := q 0 (by decide)
   exact ⟨b, off, K, cwd, uid, gid, s, u, mo, N, oa, ob, rfl, World.block_lt_of_cell? W ⟨b, off + j * 10, none⟩ q0, e1, e2, e3, e4, q0, q 1 (by decide), q 2 (by decide), q 3 (by decide), q 4 (by decide), q 5 (by decide), q 6 (by decide), q 7 (by decide), q 8 (by decide), q 9 (by decide)⟩
end Go.Proofs.YtafonmnfeibaiaaGreat
namespace Go.Proofs.YtafonmnfeibaiaaGreat
open Go.RowKit
def s7r : IT.Nd := ⟨1, 493, 0, 0, 0, 0, [], [], 1⟩
def s7d : IT.Nd := { newN (whoC 0 0) 1 448 2 with holds := 0 }
def s71 : IT.Tr := IT.entT (IT.upd (IT.rootT 493 0 0) 2 (some s7d)) 1 2 [100] s7r s7d
def s7d2 : IT.Nd := ⟨1, 448, 5, 5, 0, 0, [], [], 1⟩
def s72 : IT.Tr := IT.upd s71 2 (some s7d2)
def s7f : IT.Nd := newN (whoC 5 5) 0 420 3
def s73 : IT.Tr := IT.entT (IT.upd s72 3 (some s7f)) 2 3 [120] s7d2 s7f
theorem rt_of {m o g : Int} (h : rightB m o g = true) : rt m o g := h
theorem s7_mkdir {r : Int} {T' : IT.Tr} (h : isMkdir (IT.rootT 493 0 0) (whoC 0 0) 1 [47, 100] 448 r T') : r = 0 ∧ T' = s71 :=
 mkdir_new (IT.rootT_sound okN 493 0 0) (d := 1) (n := s7r) (nm := [100]) (must := false) (by kernel_rfl) rfl rfl (by decide +kernel) rfl (by decide) (by decide +kernel) (by decide +kernel) (rt_of (by decide +kernel)) (j := 2) ⟨by omega, by omega, rfl, fun k h1 h2 => (show k = 1 by omega) ▸ (show IT.rootT 493 0 0 1 ≠ none from fun e => by cases e)⟩ h
theorem s7_chown {r : Int} {T' : IT.Tr} (h : isChown s71 (whoC 0 0) 1 [100] 5 5 r T') : r = 0 ∧ T' = s72 := by
 unfold isChown at h
 have hf : findT s71 (whoC 0 0) 1 [100] = (2, 0) := by kernel_rfl
 rw [hf, if_neg (by decide)] at h
 obtain ⟨m, hm, h⟩ := h
 have e2 : s71 2 = some ⟨1, 448, 0, 0, 0, 0, [], [], 1⟩ := by kernel_rfl
 rw [e2] at hm
 obtain rfl := oI hm
 rw [if_neg (by decide)] at h
 unfold IT.isSet at h
 rw [e2] at h
 dsimp only at h
 rw [if_neg (fun hh => hh (rt_of (by decide +kernel)))] at h
 exact h
theorem s7_open {i : Nat} {r : Int} {T' : IT.Tr} (hs : IT.Sound okN s72) (h : isOpen s72 (whoC 5 5) 1 [47, 100, 47, 120] ⟨2, true, false, false, false, 420⟩ i r T') : i = 3 ∧ r = 0 ∧ T' = s73 := by
 unfold isOpen at h
 have he : entryT s72 (whoC 5 5) 1 [47, 100, 47, 120] = .ok ⟨2, [120], false, none⟩ := by kernel_rfl
 rw [if_neg (by decide +kernel), if_pos rfl, he] at h
 dsimp only at h
 rw [if_neg (by decide)] at h
 obtain ⟨m, hm, h⟩ := h
 have e2 : s72 2 = some s7d2 := by kernel_rfl
 rw [e2] at hm
 obtain rfl := oI hm
 rw [show mayN s7d2 (whoC 5 5) 2 = true by decide +kernel] at h
 exact makes_new hs e2 rfl (by decide +kernel) rfl (by decide) (.inl rfl) (rt_of (by decide +kernel)) (j := 3) ⟨by omega, by omega, by kernel_rfl, fun k h1 h2 => by
  rcases (show k = 1 ∨ k = 2 by omega) with rfl | rfl
  · rw [show s72 1 = some { s7r with names := [([100], 2)] } by kernel_rfl]; exact fun e => by cases e
  · rw [e2]; exact fun e => by cases e⟩ h
theorem s7_remove {r : Int} {T' : IT.Tr} (h : isWRemove s73 (whoC 6 6) 1 [47, 100, 47, 120] false r T') : r = 4 ∧ T' = s73 := by
 unfold isWRemove at h
 have he : entryT s73 (whoC 6 6) 1 [47, 100, 47, 120] = .error 4 := by kernel_rfl
 rw [he] at h
 exact h
theorem hb_few {T : IT.Tr} (h : (List.range 201).all (fun k => match T k with
  | none => true
  | some m => decide (m.holds ≤ 1000)) = true) (hs : IT.Sound okN T) : HB T 1000 := fun k m hk => by
 have hr := hs.1.rng k m hk
 have h2 := List.all_eq_true.1 h k (by simp; omega)
 rw [hk] at h2
 exact of_decide_eq_true h2
theorem shown7_any (w : World) : Calls Tryz.prog 8 #[] w fun e w' => e = .returned (.bool true) ∧ Below w.heap.size w w' := by
 go_enter Tryz.func8, Tryz.ntmps8
 go_wp2_with fail
 refine (new_ok _ _ _ _ (by decide +kernel)).mono ?_
 rintro e w1 ⟨t, S0, rfl, h0⟩
 have H0 := Hd h0
 clear h0
 go_wp2_with fail
 refine (who_any _ _ _).mono ?_
 rintro e w2 ⟨rfl, hb⟩
 have H1 := Hd (H0.out.below hb)
 clear hb
 go_wp2_with fail
 refine (walkMkdir_any H1.out.tre ((hb_few (by decide +kernel) H1.out.snd).mono (by decide)) 1 (whoC 0 0) _ _).mono ?_
 rintro e w3 ⟨r, rfl, hst⟩
 obtain ⟨S1, T1, h1, hr, _⟩ := H1.out.stp hst fun T' h => h.sound H1.out.snd
 obtain ⟨rfl, rfl⟩ := s7_mkdir hr
 have H2 := Hd h1
 clear hst hr h1
 go_wp2_with fail
 refine (who_any _ _ _).mono ?_
 rintro e w4 ⟨rfl, hb⟩
 have H3 := Hd (H2.out.below hb)
 clear hb
 go_wp2_with fail
 refine (walkChown_any H3.out.tre 1 (whoC 0 0) _ _ _).mono ?_
 rintro e w5 ⟨r, rfl, hst⟩
 obtain ⟨S2, T2, h2, hr, _⟩ := H3.out.stp hst fun T' h => h.sound H3.out.snd
 obtain ⟨rfl, rfl⟩ := s7_chown hr
 have H4 := Hd h2
 clear hst hr h2
 go_wp2_with fail
 refine (who_any _ _ _).mono ?_
 rintro e w6 ⟨rfl, hb⟩
 have H5 := Hd (H4.out.below hb)
 clear hb
 go_wp2_with fail
 refine (walkOpen_any H5.out.tre ((hb_few (by decide +kernel) H5.out.snd).mono (by decide)) 1 (whoC 5 5) _ ⟨2, true, false, false, false, 420⟩).mono ?_
 rintro e w7 ⟨i, r, rfl, hst⟩
 obtain ⟨S3, T3, h3, hr, _⟩ := H5.out.stp hst fun T' h => h.sound H5.out.snd
 obtain ⟨rfl, rfl, rfl⟩ := s7_open H5.out.snd hr
 have H6 := Hd h3
 clear hst hr h3
 go_wp2_with fail
 refine (who_any _ _ _).mono ?_
 rintro e w8 ⟨rfl, hb⟩
 have H7 := Hd (H6.out.below hb)
 clear hb
 go_wp2_with fail
 refine (walkFind_any H7.out.tre 1 (whoC 6 6) _ (k := 0) (r := 4) (by kernel_rfl)).mono ?_
 rintro e w9 ⟨he, hb⟩
 replace he : e = .returned (.tuple #[.int .i64 0, .int .i64 4]) := he
 subst he
 have H8 := Hd (H7.out.below hb)
 clear hb
 go_wp2_with fail
 refine (who_any _ _ _).mono ?_
 rintro e w10 ⟨rfl, hb⟩
 have H9 := Hd (H8.out.below hb)
 clear hb
 go_wp2_with fail
 refine (walkFind_any H9.out.tre 1 (whoC 0 0) _ (k := 3) (r := 0) (by kernel_rfl)).mono ?_
 rintro e w11 ⟨he, hb⟩
 replace he : e = .returned (.tuple #[.int .i64 3, .int .i64 0]) := he
 subst he
 have H10 := Hd (H9.out.below hb)
 clear hb
 go_wp2_with fail
 refine (who_any _ _ _).mono ?_
 rintro e w12 ⟨rfl, hb⟩
 have H11 := Hd (H10.out.below hb)
 clear hb
 go_wp2_with fail
 refine (walkRemove_any H11.out.tre 1 (whoC 6 6) _ _).mono ?_
 rintro e w13 ⟨r, rfl, hst⟩
 obtain ⟨S4, T4, h4, hr, _⟩ := H11.out.stp hst fun T' h => h.sound H11.out.snd
 obtain ⟨rfl, rfl⟩ := s7_remove hr
 have H12 := Hd h4
 clear hst hr h4
 go_wp2
 go_ret
 exact ⟨rfl, H12.out.own.below⟩
theorem root_hb (m o g : Int) : HB (IT.rootT m o g) 1 := fun k n hk => by obtain ⟨_, rfl⟩ := IT.rootT_get hk; exact Nat.zero_le _
theorem some7_any (a : Option Addr) (len cap : Nat) (w w1 : World) (hl : len ≤ maxLen) (h0 : Ops7 w w.heap.size a len) (hb1 : Below w.heap.size w w1) :
  Calls Tryz.prog 9 #[.slice a len cap] w1 fun e w' => ∃ t S T, e = .returned (.pointer (some ⟨t, 0, none⟩)) ∧ Tro w1.heap.size w1 w' t S T ∧ HB T 61 ∧ MR T := by
 unfold maxLen at hl
 have HS := Hd h0
 have HB1 := Hd hb1
 clear h0 hb1
 have hr : rightB 511 0 0 = true := by decide
 go_enter Tryz.func9, Tryz.ntmps9
 go_wp2_with fail
 refine (new_ok _ _ _ _ hr).mono ?_
 rintro e w2 ⟨t, S0, rfl, ho⟩
 have H0 := Hd ho
 clear ho
 go_wp2_with fail
 refine (RF.rf_new _ _ _ (by decide) _ hr).mono ?_
 rintro e w3 ⟨r, B, G0, rfl, hr1, hr2, hbl, htr⟩
 have HI0 : Hid (Duo w1.heap.size w1 w3 t S0 (IT.rootT 511 0 0) r B G0 (IT.rootT 511 0 0) ∧ HB (IT.rootT 511 0 0) (0 + 1) ∧ MR (IT.rootT 511 0 0)) := Hd ⟨⟨H0.out.below hbl, htr, by have := H0.out.own.le; omega⟩, root_hb _ _ _, MR.root hr⟩
 clear hr1 hr2 hbl htr H0
 go_wp2_with fail
 go_loopg [5] 60 (fun g iv wr => ∃ (k : Nat) (S : Tab) (T : IT.Tr) (G : RF.Gt), iv = .int .i64 (k : Int) ∧ k + g = 60 ∧ Hid (Duo w1.heap.size w1 wr t S T r B G T ∧ HB T (k + 1) ∧ MR T))
 case atStart => exact ⟨0, _, _, _, rfl, rfl, HI0⟩
 case round =>
  clear HI0
  obtain ⟨k, S, T, G, rfl, hkg, HI⟩ := hrel
  by_cases hc : k < len ∧ k < 60
  · obtain ⟨hk1, hk2⟩ := hc
    obtain ⟨og, rfl⟩ : ∃ og, gk = og + 1 := ⟨gk - 1, by omega⟩
    obtain ⟨b, off, K, cwd, uid, gid, s, u, mo, N, oa, ob, rfl, hbb, hm1, hm2, hsz, husz, q0, q1, q2, q3, q4, q5, q6, q7, q8, q9⟩ := HS.out k hk1
    have tr : ∀ (i : Nat) (v : Value), w.cell? ⟨b, i, none⟩ = some v → wr.cell? ⟨b, i, none⟩ = some v := fun i v hv => by
     rw [HI.out.1.a.own.below.cell (p := ⟨b, i, none⟩) (by have := HB1.out.size; simp; omega), HB1.out.cell (p := ⟨b, i, none⟩) hbb]; exact hv
    have p0 := tr _ _ q0
    have p1 := tr _ _ q1
    have p2 := tr _ _ q2
    have p3 := tr _ _ q3
    have p4 := tr _ _ q4
    have p5 := tr _ _ q5
    have p6 := tr _ _ q6
    have p7 := tr _ _ q7
    have p8 := tr _ _ q8
    have p9 := tr _ _ q9
    clear tr q0 q1 q2 q3 q4 q5 q6 q7 q8 q9
    have hk3 : (k : Int) < len := by omega
    have hk4 : (k : Int) < 60 := by omega
    by_cases h5 : u.size ≤ 5000
    · have h6 : (u.size : Int) ≤ 5000 := by omega
      have HD := Hd HI.out.1
      have HHB := Hd HI.out.2.1
      have HMR := Hd HI.out.2.2
      clear HI
      go_wp2_with fail
      refine (does7_any HD.out (n := k + 1) (by omega) (by omega) HHB.out HMR.out K cwd uid gid s u mo N oa ob hsz husz hm1 hm2).mono ?_
      rintro e w5 ⟨rfl, S', T', G', hd2, hx1, hm3, hlay⟩
      have HN := Hd (And.intro hd2 (And.intro hx1 hm3))
      clear hd2 hx1 hm3 hlay HHB HMR HD p0 p1 p2 p3 p4 p5 p6 p7 p8 p9
      go_wp2
      go_roundg og
      case measure => omega
      case rel => exact ⟨k + 1, S', T', G', by go_num, by omega, HN⟩
    · have h6 : (5000 : Int) < u.size := by omega
      have HN := Hd (And.intro HI.out.1 (And.intro (HI.out.2.1.mono (Nat.le_succ _)) HI.out.2.2))
      clear HI
      go_wp2
      go_roundg og
      case measure => omega
      case rel => exact ⟨k + 1, _, _, _, by go_num, by omega, HN⟩
  · have HEND := Hd (And.intro HI.out.1 (And.intro (HI.out.2.1.mono (show k + 1 ≤ 61 by omega)) HI.out.2.2))
    clear HI HS
    by_cases hkl : k < len
    · have hk3 : (k : Int) < len := by omega
      have hk4 : (60 : Int) ≤ k := by omega
      clear hc
      go_wp2
      go_ret
      exact ⟨_, _, _, rfl, HEND.out.1.a, HEND.out.2⟩
    · have hk3 : (len : Int) ≤ k := by omega
      clear hc
      go_wp2
      go_ret
      exact ⟨_, _, _, rfl, HEND.out.1.a, HEND.out.2⟩
def statF (T : IT.Tr) (k j : Nat) : Int := match T k with
 | none => 0
 | some m => match j with
   | 0 => k
   | 1 => m.kind
   | 2 => m.mode
   | 3 => m.owner
   | 4 => m.group
   | 5 => (IT.lnk T k : Nat)
   | 6 => (m.data.length + m.names.length : Nat)
   | _ => m.tty
theorem stat_F (T : IT.Tr) (k : Nat) : statV T k = .agg #[.int .i64 (statF T k 0), .int .i64 (statF T k 1), .int .i64 (statF T k 2), .int .i64 (statF T k 3), .int .i64 (statF T k 4), .int .i64 (statF T k 5), .int .i64 (statF T k 6), .int .i64 (statF T k 7)] := by
 unfold statV statF
 cases T k <;> rfl
def wasA (F : Nat → Nat → Int) : Array Value := Array.ofFn (n := 1608) fun i => .int .i64 (F (i.val / 8) (i.val % 8))
theorem wasA_get (F : Nat → Nat → Int) {i : Nat} (h : i < 1608) : (wasA F)[i]? = some (.int .i64 (F (i / 8) (i % 8))) := by simp [wasA, h]
theorem wasA_cell (F : Nat → Nat → Int) {d j : Nat} (hd : d < 201) (hj : j < 8) : (wasA F)[d * 8 + j]? = some (.int .i64 (F d j)) := by
 rw [wasA_get F (by omega)]
 congr 3
 · congr 1; omega
 · omega
def setF (F : Nat → Nat → Int) (d : Nat) (v : Nat → Int) : Nat → Nat → Int := fun k j => if k = d then v j else F k j
structure WO (n0 : Nat) (w1 wr : World) (t : Nat) (S : Tab) (T : IT.Tr) (b5 b6 b7 : Nat) (V C A : Array Value) : Prop where
 tro : Tro n0 w1 wr t S T
 op : wr.heap[b5]? = some (.cells V 24 (0, 0))
 cr : wr.heap[b6]? = some (.cells C 36 (0, 0))
 was : wr.heap[b7]? = some (.cells A 48 (0, 0))
 l7 : n0 ≤ b7
theorem WO.below {n0 : Nat} {w1 wr w' : World} {t : Nat} {S : Tab} {T : IT.Tr} {b5 b6 b7 : Nat} {V C A : Array Value} (h : WO n0 w1 wr t S T b5 b6 b7 V C A) (hb : Below wr.heap.size wr w') : WO n0 w1 w' t S T b5 b6 b7 V C A :=
 ⟨h.tro.below hb, (hb.block _ (lH h.op)).trans h.op, (hb.block _ (lH h.cr)).trans h.cr, (hb.block _ (lH h.was)).trans h.was, h.l7⟩
theorem WO.step {n0 : Nat} {w1 wr w' : World} {t : Nat} {S : Tab} {T : IT.Tr} {b5 b6 b7 : Nat} {V C A : Array Value} (h : WO n0 w1 wr t S T b5 b6 b7 V C A) {R : IT.Tr → Prop} (g : Stp wr t S R w') (hR : ∀ T', R T' → IT.Sound okN T') : ∃ S' T', WO n0 w1 w' t S' T' b5 b6 b7 V C A ∧ R T' := by
 obtain ⟨S', T', h1, h2, h3⟩ := h.tro.lay g hR
 exact ⟨S', T', ⟨h1, h3.2 _ _ _ _ h.op (by decide) (by decide) (by decide), h3.2 _ _ _ _ h.cr (by decide) (by decide) (by decide), h3.2 _ _ _ _ h.was (by decide) (by decide) (by decide), h.l7⟩, h2⟩
theorem WO.cell {n0 : Nat} {w1 wr : World} {t : Nat} {S : Tab} {T : IT.Tr} {b5 b6 b7 : Nat} {V C : Array Value} {F : Nat → Nat → Int} (h : WO n0 w1 wr t S T b5 b6 b7 V C (wasA F)) {d j : Nat} (hd : d < 201) (hj : j < 8) : wr.cell? ⟨b7, d * 8 + j, none⟩ = some (.int .i64 (F d j)) := (cO h.was _).trans (wasA_cell F hd hj)
def sets (W : World) (b : Nat) (l : List (Nat × Value)) : World := l.foldl (fun W x => W.setCell ⟨b, x.1, none⟩ x.2) W
theorem sets_other {b c : Nat} (hne : c ≠ b) : ∀ (l : List (Nat × Value)) (W : World), (sets W b l).heap[c]? = W.heap[c]?
 | [], _ => rfl
 | x :: l, W => (sets_other hne l _).trans (Below.heap_setCell _ _ _ _ hne)
theorem sets_same {b : Nat} : ∀ (l : List (Nat × Value)) (W : World) (C : Array Value) (T : TypeId) (f : Nat × Nat), W.heap[b]? = some (.cells C T f) → (sets W b l).heap[b]? = some (.cells (l.foldl (fun C x => C.setIfInBounds x.1 x.2) C) T f)
 | [], _, _, _, _, h => h
 | x :: l, W, C, T, f, h => sets_same l _ _ T f (heap_setCell_same h x.2)
theorem sets_rest (b : Nat) : ∀ (l : List (Nat × Value)) (W : World), (sets W b l).os = W.os ∧ (sets W b l).tape = W.tape ∧ (sets W b l).output = W.output ∧ (sets W b l).heap.size = W.heap.size
 | [], _ => ⟨rfl, rfl, rfl, rfl⟩
 | x :: l, W => by
   obtain ⟨h1, h2, h3, h4⟩ := sets_rest b l (W.setCell ⟨b, x.1, none⟩ x.2)
   exact ⟨h1, h2, h3, h4.trans (World.size_setCell ..)⟩
theorem WO.fill {n0 : Nat} {w1 wr : World} {t : Nat} {S : Tab} {T : IT.Tr} {b5 b6 b7 : Nat} {V C A : Array Value} (h : WO n0 w1 wr t S T b5 b6 b7 V C A) (l : List (Nat × Value)) : WO n0 w1 (sets wr b7 l) t S T b5 b6 b7 V C (l.foldl (fun C x => C.setIfInBounds x.1 x.2) A) := by
 have hs := sets_same l wr _ _ _ h.was
 have ho := fun c (hc : c ≠ b7) => sets_other hc l wr
 obtain ⟨r1, r2, r3, r4⟩ := sets_rest b7 l wr
 have ty : ∀ {c : Nat} {A : Array Value} {Y : TypeId} {f : Nat × Nat}, wr.heap[c]? = some (.cells A Y f) → Y ≠ 48 → c ≠ b7 := fun hh hy e => by
  subst e
  have e2 := hh.symm.trans h.was
  simp only [Option.some.injEq, Obj.cells.injEq] at e2
  exact hy e2.2.1
 have hle := h.l7
 exact ⟨⟨⟨h.tro.own.rep.same fun c hc => ho c fun e => not_foot h.tro.own.rep h.was (by decide) (by decide) (e ▸ hc), h.tro.own.below.trans ⟨r1, r2, r3, Nat.le_of_eq r4.symm, fun c hc => ho c (by omega)⟩, by rw [r4]; exact h.tro.own.le, h.tro.own.own⟩, h.tro.ties, h.tro.snd⟩, (ho _ (ty h.op (by decide))).trans h.op, (ho _ (ty h.cr (by decide))).trans h.cr, hs, h.l7⟩
def mayT (T : IT.Tr) (k : Nat) (uid gid want : Int) : Bool := match T k with
 | none => false
 | some m => Md.mayS m.mode m.owner m.group (decide (m.kind = 1)) uid gid want
theorem may7_any {w : World} {t : Nat} {S : Tab} {T : IT.Tr} (h : Tre w t S T) (ki uid gid want : Int) :
  Calls Tryz.prog 15 #[.pointer (some ⟨t, 0, none⟩), .int .i64 ki, .int .i64 uid, .int .i64 gid, .int .i64 want] w fun e w' => e = .returned (.bool (mayT T ki.toNat uid gid want)) ∧ Below w.heap.size w w' := by
 have HT := Hd h
 unfold mayT
 cases hk : T ki.toNat with
 | none =>
   have HS := Hd (fun W (hb : Below w.heap.size w W) => by
    have := stat_any (h.mv ((Mv.refl h.rep).below hb)) ki
    unfold statV at this
    rw [hk] at this
    exact this)
   clear h hk
   go_enter Tryz.func15, Tryz.ntmps15
   go_wp2_with fail
   refine (HS.out _ (Below.refl _ _)).mono ?_
   rintro e w1 ⟨rfl, hb⟩
   have HB := Hd hb
   clear hb
   unfold noInfo
   go_wp2
   go_ret
   exact ⟨rfl, bZ HB.out _⟩
 | some m =>
   have HS := Hd (fun W (hb : Below w.heap.size w W) => by
    have := stat_any (h.mv ((Mv.refl h.rep).below hb)) ki
    unfold statV at this
    rw [hk] at this
    exact this)
   clear h hk
   go_enter Tryz.func15, Tryz.ntmps15
   go_wp2_with fail
   refine (HS.out _ (Below.refl _ _)).mono ?_
   rintro e w1 ⟨rfl, hb⟩
   have HB := Hd hb
   clear hb
   unfold infoT
   go_wp2_with fail
   refine (Md.may_any _ _ _ _ _ _ _ _).mono ?_
   rintro e w2 ⟨rfl, rfl⟩
   go_wp2
   go_ret
   exact ⟨rfl, bZ HB.out _⟩
def seaL (T : IT.Tr) (uid gid : Int) : Nat → List IT.Bytes → Bool
 | _, [] => true
 | k, n :: l => if mayT T k uid gid 1 = false then false else match lookT T k n with
   | none => l.isEmpty
   | some j => seaL T uid gid j l
def seaT (T : IT.Tr) (cwd : Int) (s : IT.Bytes) (uid gid : Int) : Bool :=
 if (Pp.splitS s).2.2.2 ≠ 0 then false else seaL T uid gid (startT cwd (Pp.splitS s).1) (Pp.splitS s).2.2.1
structure SI (w wr : World) (X : Nat) (abs dir : Bool) (a : Option Addr) (cap : Nat) (l : List ByteArray) : Prop where
 bel : Below w.heap.size w wr
 p : wr.heap[X]? = some (.cells #[.bool abs, .slice a l.length cap, .bool dir] 70 (0, 0))
 row : Row wr a l
theorem SI.below {w wr w' : World} {X : Nat} {abs dir : Bool} {a : Option Addr} {cap : Nat} {l : List ByteArray} (h : SI w wr X abs dir a cap l) (hb : Below wr.heap.size wr w') : SI w w' X abs dir a cap l :=
 ⟨h.bel.trans (hb.mono h.bel.size), (hb.block _ (lH h.p)).trans h.p, h.row.below hb⟩
theorem may_of {T : IT.Tr} {k : Nat} {m : IT.Nd} (h : T k = some m) (uid gid want : Int) : mayT T k uid gid want = mayN m (whoC uid gid) want := by
 unfold mayT; rw [h]; rfl
theorem last_app {α : Type} {l : List α} {d : α} (h : l ≠ []) : l = l.dropLast ++ [l.getLast?.getD d] := by
 conv => lhs; rw [← List.dropLast_concat_getLast h]
 rw [List.getLast?_eq_some_getLast h]; rfl
def madeT (T : IT.Tr) (i : Nat) (uid gid mode : Int) : Prop := ∃ q, T i = some q ∧ q.kind = 0 ∧ q.mode = mode ∧ q.owner = uid ∧ q.group = gid ∧ IT.lnk T i = 1
def Fr7 (T : IT.Tr) (uid : Int) (m : IT.Nd) (p : IT.Bytes × Nat) : Prop := (bits .and .i64 m.mode 512 == 0) = true ∨ uid = 0 ∨ uid = m.owner ∨ ∃ q, T p.2 = some q ∧ uid = q.owner
def ER (T : IT.Tr) (uid gid : Int) (T1 : IT.Tr) : Prop := ∀ i m m1, T i = some m → m.kind = 1 → T1 i = some m1 → m1.kind = 1 → (m1.names.map (·.1) = m.names.map (·.1) ∨ mayT T i uid gid 2 = true) ∧ ∀ p ∈ m.names, IT.findN p.1 m1.names = none → Fr7 T uid m p
theorem mem_find {nm : IT.Bytes} {x : Nat} {l : List (IT.Bytes × Nat)} (h : (nm, x) ∈ l) : IT.findN nm l ≠ none := fun e => IT.find_none e _ h rfl
theorem ER.refl (T : IT.Tr) (uid gid : Int) : ER T uid gid T := fun i m m1 h _ h1 _ => by
 rw [h] at h1
 obtain rfl := oI h1
 exact ⟨.inl rfl, fun p hp hf => absurd hf (mem_find (x := p.2) hp)⟩
theorem ER.sub {T T1 T2 : IT.Tr} {uid gid : Int} (h : ER T uid gid T1) (hs : ∀ i m2, T2 i = some m2 → ∃ m1, T1 i = some m1 ∧ m2.names = m1.names ∧ m2.kind = m1.kind) : ER T uid gid T2 := fun i m m2 hi hk h2 hk2 => by
 obtain ⟨m1, h1, e1, e2⟩ := hs i m2 h2
 rw [e1]
 exact h i m m1 hi hk h1 (e2 ▸ hk2)
theorem nf_sub {T1 T2 : IT.Tr} (h : IT.NF T1 T2) : ∀ i m2, T2 i = some m2 → ∃ m1, T1 i = some m1 ∧ m2.names = m1.names ∧ m2.kind = m1.kind := by
 induction h with
 | done _ => exact fun i m2 h2 => ⟨m2, h2, rfl, rfl⟩
 | @step S S' j _ _ ih =>
   intro i m2 h2
   obtain ⟨m1, h1, e1, e2⟩ := ih i m2 h2
   unfold IT.rem at h1
   split at h1
   · cases h1
   · split at h1
     · exact ⟨m1, h1, e1, e2⟩
     · cases hS : S i with
       | none => rw [hS] at h1; cases h1
       | some m0 =>
         rw [hS] at h1
         obtain rfl := oI h1
         refine ⟨m0, rfl, e1.trans ?_, e2.trans ?_⟩
         · unfold IT.alone; split <;> rfl
         · unfold IT.alone; split <;> rfl
theorem ER.nf {T T1 T2 : IT.Tr} {uid gid : Int} (h : ER T uid gid T1) (hn : IT.NF T1 T2) : ER T uid gid T2 := h.sub (nf_sub hn)
theorem ER.new {T T1 : IT.Tr} {uid gid : Int} (h : ER T uid gid T1) {k : Nat} (hk : T k = none) (o : Option IT.Nd) : ER T uid gid (IT.upd T1 k o) := fun i m m1 hi hd h1 hk1 => by
 by_cases e : i = k
 · rw [e, hk] at hi; cases hi
 · rw [IT.uX _ _ e] at h1
   exact h i m m1 hi hd h1 hk1
theorem ER.drop {T T1 T2 : IT.Tr} {uid gid : Int} (h : ER T uid gid T1) {k : Nat} {b : Bool} (hd : IT.isDrop T1 k b T2) : ER T uid gid T2 := by
 unfold IT.isDrop at hd
 split at hd
 · rw [hd.2]; exact h
 · rename_i n hn
   split at hd
   · rw [hd.2]; exact h
   · refine (h.sub (T2 := IT.upd T1 k (some { n with holds := n.holds - 1 })) fun i m2 h2 => ?_).nf hd.2
     rcases IT.get_upd h2 with ⟨rfl, e⟩ | ⟨_, e⟩
     · obtain rfl := oI e
       exact ⟨n, hn, rfl, rfl⟩
     · exact ⟨m2, e, rfl, rfl⟩
theorem find_ins_none {a nm : IT.Bytes} {x : Nat} {l : List (IT.Bytes × Nat)} (h : IT.findN a (IT.insN nm x l) = none) : IT.findN a l = none := by
 cases hf : IT.findN a l with
 | none => rfl
 | some y => exact absurd h (mem_find ((IT.ins_perm nm x l).mem_iff.2 (List.mem_cons_of_mem _ (IT.find_mem hf))))
theorem find_del_none {a nm : IT.Bytes} {l : List (IT.Bytes × Nat)} (h : IT.findN a (IT.delN nm l) = none) : a = nm ∨ IT.findN a l = none := by
 by_cases e : a = nm
 · exact .inl e
 · right
   cases hf : IT.findN a l with
   | none => rfl
   | some y =>
     refine absurd h (mem_find (x := y) ?_)
     unfold IT.delN
     rw [List.mem_filter]
     exact ⟨IT.find_mem hf, by simpa using e⟩
theorem ER.ent {T T1 : IT.Tr} {uid gid : Int} (h : ER T uid gid T1) {d x : Nat} {nm : IT.Bytes} {n m : IT.Nd} (hd : T1 d = some n) (hx : T1 x = some m) (hw : mayT T d uid gid 2 = true) : ER T uid gid (IT.entT T1 d x nm n m) := fun i a a1 hi hk h1 hk1 => by
 unfold IT.entT at h1
 rcases IT.get_upd h1 with ⟨rfl, e⟩ | ⟨hne, e⟩
 · obtain rfl := oI e
   refine ⟨.inr hw, fun p hp hf => (h i a n hi hk hd hk1).2 p hp (find_ins_none hf)⟩
 · rcases IT.get_upd e with ⟨rfl, e3⟩ | ⟨_, e⟩
   · obtain rfl := oI e3
     rw [IT.under_names]
     exact h i a m hi hk hx (by rw [IT.under_kind] at hk1; exact hk1)
   · exact h i a a1 hi hk e hk1
theorem ER.del {T T1 : IT.Tr} {uid gid : Int} (h : ER T uid gid T1) {d x : Nat} {nm : IT.Bytes} {n m : IT.Nd} (hd : T1 d = some n) (hx : T1 x = some m) (hw : mayT T d uid gid 2 = true) (hf : ∀ a, T d = some a → ∀ p ∈ a.names, p.1 = nm → Fr7 T uid a p) : ER T uid gid (IT.delT T1 d x nm n m) := fun i a a1 hi hk h1 hk1 => by
 unfold IT.delT at h1
 rcases IT.get_upd h1 with ⟨rfl, e⟩ | ⟨hne, e⟩
 · obtain rfl := oI e
   refine ⟨.inr hw, fun p hp hff => ?_⟩
   rcases find_del_none hff with e2 | e2
   · exact hf a hi p hp e2
   · exact (h i a n hi hk hd hk1).2 p hp e2
 · rcases IT.get_upd e with ⟨rfl, e3⟩ | ⟨_, e⟩
   · obtain rfl := oI e3
     have hnm : (IT.alone i m).names = m.names := by unfold IT.alone; split <;> rfl
     have hkm : (IT.alone i m).kind = m.kind := by unfold IT.alone; split <;> rfl
     rw [hnm]
     exact h i a m hi hk hx (by rw [hkm] at hk1; exact hk1)
   · exact h i a a1 hi hk e hk1
theorem takes_free {T : IT.Tr} (hs : IT.Sound okN T) {uid gid : Int} {d j : Nat} {nm : IT.Bytes} {m q : IT.Nd} (hm : T d = some m) (hl : IT.findN nm m.names = some j) (hj : T j = some q) (ht : takesB (whoC uid gid).eff m.mode m.owner q.owner = true) : ∀ a, T d = some a → ∀ p ∈ a.names, p.1 = nm → Fr7 T uid a p := fun a ha p hp e => by
 rw [hm] at ha
 obtain rfl := oI ha
 have e2 : p.2 = j := by
  have := IT.find_of (hs.1.ord d m hm) hp
  rw [e, hl] at this
  exact (oI this).symm
 unfold takesB at ht
 simp only [Bool.or_eq_true] at ht
 rcases ht with ht | ht | ht | ht
 · exact .inl ht
 · exact .inr (.inl (by simpa [whoC] using ht))
 · exact .inr (.inr (.inl (by simpa [whoC] using ht)))
 · exact .inr (.inr (.inr ⟨q, by rw [e2]; exact hj, by simpa [whoC] using ht⟩))
theorem er_enter {T T1 T2 : IT.Tr} {uid gid : Int} (h : ER T uid gid T1) {d x : Nat} {nm : IT.Bytes} {r : Int} (hw : mayT T d uid gid 2 = true) (he : IT.isEnter okN T1 d nm x r T2) : ER T uid gid T2 := by
 unfold IT.isEnter at he
 split at he
 · rename_i n m hn hm
   split at he
   · rw [he.2]; exact h
   · split at he
     · rw [he.2]; exact h
     · split at he
       · rw [he.2]; exact h
       · split at he
         · rw [he.2]; exact h
         · split at he
           · rw [he.2]; exact h
           · split at he
             · rw [he.2]; exact h
             · rw [he.2]; exact h.ent hn hm hw
 · rw [he.2]; exact h
theorem find_look {T : IT.Tr} (hs : IT.Sound okN T) {d y : Nat} {nm : IT.Bytes} {m : IT.Nd} (hm : T d = some m) (hk : m.kind = 1) (hy : IT.findN nm m.names = some y) : lookT T d nm = some y := by
 have h2 := of_decide_eq_true (hs.1.okn d m _ hm (IT.find_mem hy))
 unfold lookT
 rw [hm]
 dsimp only
 rw [if_neg (fun hh => hh hk), if_neg h2.2.2.1, if_neg h2.2.2.2.1]
 exact hy
theorem er_makes {T T' : IT.Tr} {uid gid : Int} {b : Bool} {d : Nat} {m : IT.Nd} (hm : T d = some m) (hb : b = mayN m (whoC uid gid) 2) {nm : IT.Bytes} {kind mode : Int} {i : Nat} {r : Int} (h : isMakes b T (whoC uid gid) d nm kind mode i r T') : ER T uid gid T' := by
 unfold isMakes at h
 split at h
 · rw [h.2.2]; exact ER.refl T uid gid
 · rename_i hbt
   have hw : mayT T d uid gid 2 = true := by rw [may_of hm, ← hb]; simpa using hbt
   obtain ⟨i1, r1, T1, h1, h⟩ := h
   have e1 : ER T uid gid T1 := by
    unfold IT.isMake at h1
    split at h1
    · rw [h1.2.2]; exact ER.refl T uid gid
    · split at h1
      · rw [h1.2.2]; exact ER.refl T uid gid
      · split at h1
        · rw [h1.2.2]; exact ER.refl T uid gid
        · obtain ⟨_, _, _, g3, _, rfl⟩ := h1
          exact (ER.refl T uid gid).new g3 _
   split at h
   · rw [h.2.2]; exact e1
   · obtain ⟨r2, T2, h2, h⟩ := h
     have e2 : ER T uid gid T2 := er_enter e1 hw h2
     split at h
     · obtain ⟨_, _, b2, h3⟩ := h
       exact e2.drop h3
     · rw [h.2.2]; exact e2
theorem er_mkdir {T T' : IT.Tr} {uid gid cwd mode r : Int} {s : IT.Bytes} (h : isMkdir T (whoC uid gid) cwd s mode r T') : ER T uid gid T' := by
 unfold isMkdir at h
 split at h
 · rw [h.2]; exact ER.refl T uid gid
 · split at h
   · rw [h.2]; exact ER.refl T uid gid
   · split at h
     · rw [h.2]; exact ER.refl T uid gid
     · obtain ⟨m, i1, r1, T1, hm, hk, h⟩ := h
       have e1 := er_makes hm rfl hk
       split at h
       · obtain ⟨_, b, h⟩ := h
         exact e1.drop h
       · rw [h.2]; exact e1
theorem er_link {T T' : IT.Tr} {uid gid cwd r : Int} {s a : IT.Bytes} (h : isLink T (whoC uid gid) cwd s a r T') : ER T uid gid T' := by
 unfold isLink at h
 split at h
 · rw [h.2]; exact ER.refl T uid gid
 · obtain ⟨q, _, h⟩ := h
   split at h
   · rw [h.2]; exact ER.refl T uid gid
   · split at h
     · rw [h.2]; exact ER.refl T uid gid
     · split at h
       · rw [h.2]; exact ER.refl T uid gid
       · split at h
         · rw [h.2]; exact ER.refl T uid gid
         · obtain ⟨m, hm, h⟩ := h
           split at h
           · rw [h.2]; exact ER.refl T uid gid
           · rename_i hw
             exact er_enter (ER.refl T uid gid) (by rw [may_of hm]; simpa using hw) h
theorem er_remove {T T' : IT.Tr} (hs : IT.Sound okN T) {uid gid cwd r : Int} {s : IT.Bytes} {b : Bool} (h : isWRemove T (whoC uid gid) cwd s b r T') : ER T uid gid T' := by
 unfold isWRemove at h
 split at h
 · rw [h.2]; exact ER.refl T uid gid
 · rename_i x hx
   split at h
   · rw [h.2]; exact ER.refl T uid gid
   · rename_i j hj
     obtain ⟨m, q, hm, hq, h⟩ := h
     split at h
     · rw [h.2]; exact ER.refl T uid gid
     · split at h
       · rw [h.2]; exact ER.refl T uid gid
       · split at h
         · rw [h.2]; exact ER.refl T uid gid
         · rename_i hw
           split at h
           · rw [h.2]; exact ER.refl T uid gid
           · rename_i htk
             have hw : mayT T x.dir uid gid 2 = true := by rw [may_of hm]; simpa using hw
             have htk : takesB (whoC uid gid).eff m.mode m.owner q.owner = true := by simpa using htk
             unfold IT.isRemove at h
             rw [hm] at h
             dsimp only at h
             split at h
             · rw [h.2]; exact ER.refl T uid gid
             · rename_i hkd
               split at h
               · rw [h.2]; exact ER.refl T uid gid
               · rename_i y hy
                 obtain ⟨my, hmy, h⟩ := h
                 split at h
                 · rw [h.2]; exact ER.refl T uid gid
                 · have e1 := find_look hs hm (Decidable.not_not.1 hkd) hy
                   obtain ⟨m3, _, ht, _⟩ := entry_ok hx
                   have hyj : y = j := by
                    rw [hj, e1] at ht
                    exact (oI ht).symm
                   subst hyj
                   exact ((ER.refl T uid gid).del hm hmy hw (takes_free hs hm hy hq htk)).nf h.2
theorem er_rename {T T' : IT.Tr} (hs : IT.Sound okN T) {uid gid cwd r : Int} {s a : IT.Bytes} (h : isRename T (whoC uid gid) cwd s a r T') : ER T uid gid T' := by
 unfold isRename at h
 split at h
 · rw [h.2]; exact ER.refl T uid gid
 · rename_i x hx
   split at h
   · rw [h.2]; exact ER.refl T uid gid
   · rename_i j hj
     split at h
     · rw [h.2]; exact ER.refl T uid gid
     · rename_i y hy
       obtain ⟨m, q, n, hm, hq, hn, h⟩ := h
       split at h
       · rw [h.2]; exact ER.refl T uid gid
       · split at h
         · rw [h.2]; exact ER.refl T uid gid
         · rename_i hw
           split at h
           · rw [h.2]; exact ER.refl T uid gid
           · rename_i htk
             have hw1 : mayT T x.dir uid gid 2 = true := by
              rw [may_of hm]
              cases e : mayN m (whoC uid gid) 2 with
              | true => rfl
              | false => exact absurd (.inl e) hw
             have hw2 : mayT T y.dir uid gid 2 = true := by
              rw [may_of hn]
              cases e : mayN n (whoC uid gid) 2 with
              | true => rfl
              | false => exact absurd (.inr e) hw
             have ht1 : takesB (whoC uid gid).eff m.mode m.owner q.owner = true := by
              cases e : takesB (whoC uid gid).eff m.mode m.owner q.owner with
              | true => rfl
              | false => exact absurd (.inl e) htk
             have ht2 : takesO T (whoC uid gid) n y.tg = true := by
              cases e : takesO T (whoC uid gid) n y.tg with
              | true => rfl
              | false => exact absurd (.inr e) htk
             obtain ⟨_, _, htx, _⟩ := entry_ok hx
             obtain ⟨_, _, hty, _⟩ := entry_ok hy
             rw [hj] at htx
             unfold IT.isMove at h
             rw [hm, hn] at h
             dsimp only at h
             split at h
             · rw [h.2]; exact ER.refl T uid gid
             · rename_i hkk
               have hk1 : m.kind = 1 := by
                by_cases e : m.kind = 1
                · exact e
                · exact absurd (.inl e) hkk
               have hk2 : n.kind = 1 := by
                by_cases e : n.kind = 1
                · exact e
                · exact absurd (.inr e) hkk
               split at h
               · rw [h.2]; exact ER.refl T uid gid
               · rename_i z hz
                 have hzj : z = j := by
                  rw [find_look hs hm hk1 hz] at htx
                  exact (oI htx).symm
                 subst hzj
                 obtain ⟨mz, hmz, h⟩ := h
                 have hd1 := (ER.refl T uid gid).del (nm := x.name) hm hmz hw1 (takes_free hs hm hz hq ht1)
                 split at h
                 · rw [h.2]; exact ER.refl T uid gid
                 · split at h
                   · rw [h.2]; exact ER.refl T uid gid
                   · split at h
                     · split at h
                       · rw [h.2]; exact ER.refl T uid gid
                       · obtain ⟨_, q1, m1, g1, g2, rfl⟩ := h
                         exact hd1.ent g1 g2 hw2
                     · rename_i w hwf
                       split at h
                       · rw [h.2]; exact ER.refl T uid gid
                       · rename_i hwz
                         obtain ⟨mw, hmw, h⟩ := h
                         split at h
                         · rw [h.2]; exact ER.refl T uid gid
                         · split at h
                           · rw [h.2]; exact ER.refl T uid gid
                           · rename_i hne
                             obtain ⟨_, q1, q2, m2, g1, g2, g3, hnf⟩ := h
                             rw [find_look hs hn hk2 hwf] at hty
                             rw [hty] at ht2
                             unfold takesO at ht2
                             dsimp only at ht2
                             rw [hmw] at ht2
                             dsimp only at ht2
                             have hwd : w ≠ x.dir := fun e => by
                              rw [e, hm] at hmw
                              obtain rfl := oI hmw
                              rw [Decidable.not_not.1 hne] at hz
                              cases hz
                             have hmw1 : IT.delT T x.dir z x.name m mz w = some mw := by
                              unfold IT.delT
                              rw [IT.uX _ _ hwd, IT.uX _ _ hwz]
                              exact hmw
                             exact ER.nf (ER.ent (hd1.del g1 hmw1 hw2 (takes_free hs hn hwf hmw ht2)) g2 g3 hw2) hnf
open Go.RowKit Go.Maps Go.Sort Go.Shelf
def anyR (_ : Value) : Option (DataW Unit × List MemPlace) := some (.nil, [])
theorem keys_list : ∀ (L : List MapEntry) (l : List (ByteArray × Nat)), L.map (fun e => (e.key, e.val)) = entVals l → (∀ p ∈ l, p.1.size ≤ maxLen) →
  L.map (fun e => strOf (WideElems.rg Tryz.prog 9 anyR e).1) = l.map fun p => bs p.1
 | [], [], _, _ => rfl
 | [], _ :: _, h, _ => by simp [entVals] at h
 | _ :: _, [], h, _ => by simp [entVals] at h
 | e :: L, p :: l, h, hs => by
   simp only [entVals, List.map_cons, List.cons.injEq, Prod.mk.injEq] at h
   have ih := keys_list L l h.2 fun q hq => hs q (List.mem_cons_of_mem _ hq)
   have hk : WideElems.rg Tryz.prog 9 anyR e = (.string p.1.data.toList, .nil) := by
    refine WideElems.rg_of ?_
    unfold WideElems.rd
    rw [h.1.1]
    simp [keyOf, mapKey, Tryz.underlying9, anyR, hs p (by simp)]
   rw [List.map_cons, List.map_cons, ih, hk]; rfl
theorem strKeys_map (es : List (Lit × DataW Unit)) : strKeys (DataW.map es) = es.map fun p => strOf p.1 := rfl
theorem strKeys_list (L : List MapEntry) (l : List (ByteArray × Nat)) (h : L.map (fun e => (e.key, e.val)) = entVals l) (hs : ∀ p ∈ l, p.1.size ≤ maxLen) :
  (strKeys (DataW.map ((L.map (WideElems.rg Tryz.prog 9 anyR)).foldr DataW.insert []))).Perm (l.map fun p => bs p.1) := by
 have e := (WideShapes.sorted_perm (L.map (WideElems.rg Tryz.prog 9 anyR))).map fun p => strOf p.1
 rw [List.map_map] at e
 have e2 := keys_list L l h hs
 rw [strKeys_map, ← e2]
 generalize WideElems.rg Tryz.prog 9 anyR = g at e ⊢
 exact e
theorem MapIs.owns {w : World} {m : Nat} {l : List (ByteArray × Nat)} (h : MapIs w m l) (hs : ∀ p ∈ l, p.1.size ≤ maxLen) (hl : l.length ≤ 40) :
  ∃ D0 : DataW Unit, w.ownsMap Tryz.prog 9 anyR m 40 D0 ∧ (strKeys D0).Perm (l.map fun p => bs p.1) ∧ Maps.size D0 ≤ 40 := by
 obtain ⟨es, clock, h1, h2⟩ := h
 have hlen : es.size = l.length := by have := congrArg List.length h2.vals; simpa [entVals] using this
 refine ⟨_, ⟨es, clock, h1, ⟨?_, (MapKept.stamped_iff es clock).2 ⟨h2.born, h2.apart, ?_⟩, fun x hx => ?_⟩, by omega, rfl⟩, ?_, ?_⟩
 · have : (40 : Nat) ≤ maxLen := by decide
   omega
 · have e1 : es.toList.map (·.key) = l.map fun p => Value.string p.1 := by
    have := congrArg (List.map (·.1)) h2.vals
    unfold entVals at this
    rw [List.map_map, List.map_map] at this
    exact this
   have e2 : (es.toList.map (·.key)).Pairwise (· ≠ ·) := by
    rw [e1, List.pairwise_map]
    have e3 := List.pairwise_map.1 h2.keys
    exact e3.imp fun hne e => hne (Value.string.inj e)
   exact List.pairwise_map.1 e2
 · have hm : (x.key, x.val) ∈ entVals l := by rw [← h2.vals]; exact List.mem_map.2 ⟨x, hx, rfl⟩
   obtain ⟨p, hp, e⟩ := entVals_mem hm
   obtain ⟨e1, _⟩ := Prod.mk.inj e
   refine ⟨(.string p.1.data.toList, .nil), ?_⟩
   unfold WideElems.rd
   rw [e1]
   simp [keyOf, mapKey, Tryz.underlying9, anyR, hs p hp]
 · exact strKeys_list es.toList l h2.vals hs
 · show ((es.toList.map (WideElems.rg Tryz.prog 9 anyR)).foldr DataW.insert []).length ≤ 40
   have e := length_sorted (es.toList.map (WideElems.rg Tryz.prog 9 anyR))
   rw [List.length_map, Array.length_toList] at e
   exact Nat.le_trans (Nat.le_of_eq (e.trans hlen)) hl
def namesT (T : IT.Tr) (k : Nat) : List IT.Bytes := match T k with
 | none => []
 | some m => m.names.map (·.1)
theorem ord_sorted {l : List (IT.Bytes × Nat)} (h : IT.Ord l) {ss : List (List UInt8)} (hp : ss.Perm (l.map (·.1))) : ss.mergeSort (fun x y => decide (x ≤ y)) = l.map (·.1) := by
 rw [mergeSort_of_perm hp]
 refine List.mergeSort_of_pairwise ?_
 rw [List.pairwise_map]
 exact h.imp fun hlt => by simpa using List.le_of_lt hlt
theorem names_map {w : World} {t b mb : Nat} {S : Tab} {n : Nd} (h : Rep w t S) (ki : Int) (hk : S ki.toNat = some (b, n)) (hm : n.mp = some mb) (D0 : DataW Unit) (hown : w.ownsMap Tryz.prog 9 anyR mb 40 D0) (hsz : Maps.size D0 ≤ 40) :
  Calls Tryz.prog 26 #[.pointer (some ⟨t, 0, none⟩), .int .i64 ki] w fun e w' => ∃ (v : Value) (ss : List (List UInt8)), e = .returned v ∧ ss.Perm (strKeys D0) ∧
   w'.ownsRow w.heap.size 9 1 v ss.length ((ss.mergeSort (fun x y => decide (x ≤ y))).map encStr) ∧ (v = .slice none 0 0 ↔ ss = []) ∧ Below w.heap.size w w' := by
 have c10 : w.cell? ⟨b, 10, none⟩ = some (.map (some mb)) := by rw [h.cellN hk 10]; show some (Value.map n.mp) = _; rw [hm]
 have hmax : Maps.size D0 ≤ maxLen := Nat.le_trans hsz (by decide)
 have hbytes : Maps.size D0 * 16 ≤ 140737488355328 := by omega
 have H := Hd h
 have HK := Hd hk
 clear h hk hm hsz
 refine (callsIn_wide (n := 6)).1 ?_
 have hfA : Fence.wide.fn 34 := trivial
 have hfK : Fence.wide.fn 52 := trivial
 have hfS : Fence.wide.fn 51 := trivial
 refine callsIn_of_wp Tryz.func26 rfl trivial ?_ rfl
 simp only [Tryz.ntmps26, List.size_toArray, List.length_cons, List.length_nil, Nat.reduceAdd, Nat.reduceSub, Array.replicate_succ, Array.replicate_zero, List.push_toArray, List.append_toArray, List.nil_append, List.cons_append]
 gi_wp2_with (first
  | (gi_at_call 34; refine (callsIn_wide.2 (H.out.at_some _ HK.out)).mono ?_; rintro e w' ⟨rfl, rfl⟩)
  | (gi_at_call 52; refine (Tryz.maps_Keys_52 _ _).mono ?_; rintro e w' ⟨rfl, rfl⟩)
  | (gi_at_call 51; refine (Tryz.slices_Sorted_keys_51_52 mb 40 D0 anyR w hown hmax hbytes).mono ?_; rintro e w' ⟨v, ss, rfl, hS, hrow, hnil, hb⟩))
 go_ret
 exact ⟨v, ss, rfl, hS, ownsRow_base_a hrow (by simp), hnil, ((Below.refl _ w).alloc (Nat.le_refl _) _).trans (hb.mono (by simp))⟩
theorem names_nomap {w : World} {t b : Nat} {S : Tab} {n : Nd} (h : Rep w t S) (ki : Int) (hk : S ki.toNat = some (b, n)) (hm : n.mp = none) :
  Calls Tryz.prog 26 #[.pointer (some ⟨t, 0, none⟩), .int .i64 ki] w fun e w' => e = .returned (.slice none 0 0) ∧ Below w.heap.size w w' := by
 have c10 : w.cell? ⟨b, 10, none⟩ = some (.map none) := by rw [h.cellN hk 10]; show some (Value.map n.mp) = _; rw [hm]
 have H := Hd h
 have HK := Hd hk
 clear h hk hm
 refine (callsIn_wide (n := 6)).1 ?_
 have hfA : Fence.wide.fn 34 := trivial
 have hfK : Fence.wide.fn 52 := trivial
 have hfS : Fence.wide.fn 51 := trivial
 refine callsIn_of_wp Tryz.func26 rfl trivial ?_ rfl
 simp only [Tryz.ntmps26, List.size_toArray, List.length_cons, List.length_nil, Nat.reduceAdd, Nat.reduceSub, Array.replicate_succ, Array.replicate_zero, List.push_toArray, List.append_toArray, List.nil_append, List.cons_append]
 gi_wp2_with (first
  | (gi_at_call 34; refine (callsIn_wide.2 (H.out.at_some _ HK.out)).mono ?_; rintro e w' ⟨rfl, rfl⟩)
  | (gi_at_call 52; refine (Tryz.maps_Keys_52 _ _).mono ?_; rintro e w' ⟨rfl, rfl⟩)
  | (gi_at_call 51; refine (Tryz.slices_Sorted_keys_nil_51_52 w).mono ?_; rintro e w' ⟨v, ss, rfl, hS, hrow, hnil, hb⟩))
 go_ret
 exact ⟨by rw [hnil.2 hS]; rfl, ((Below.refl _ w).alloc (Nat.le_refl _) _).trans (hb.mono (by simp))⟩
theorem names_none {w : World} {t : Nat} {S : Tab} (h : Rep w t S) (ki : Int) (hk : S ki.toNat = none) :
  Calls Tryz.prog 26 #[.pointer (some ⟨t, 0, none⟩), .int .i64 ki] w fun e w' => e = .returned (.slice none 0 0) ∧ w = w' := by
 have H := Hd h
 have HK := Hd hk
 clear h hk
 go_enter Tryz.func26, Tryz.ntmps26
 go_wp2_with fail
 refine (H.out.at_none _ HK.out).mono ?_
 rintro e w' ⟨rfl, rfl⟩
 go_wp2
 go_ret
 exact ⟨rfl, rfl⟩
theorem okN_len {l : IT.Bytes} (h : okN l = true) : l.length ≤ 14 := (of_decide_eq_true h).2.1
theorem names_any {w : World} {t : Nat} {S : Tab} {T : IT.Tr} (h : Tre w t S T) (ki : Int) :
  Calls Tryz.prog 26 #[.pointer (some ⟨t, 0, none⟩), .int .i64 ki] w fun e w' => ∃ v, e = .returned v ∧ w'.ownsRow w.heap.size 9 1 v (namesT T ki.toNat).length ((namesT T ki.toNat).map encStr) ∧ (v = .slice none 0 0 ↔ namesT T ki.toNat = []) ∧ Below w.heap.size w w' := by
 have hnil : ∀ (W : World) (b : Nat), W.ownsRow b 9 1 (.slice none 0 0) 0 [] := fun W b => W.ownsRow_nil b 9 1
 unfold namesT
 cases hk : S ki.toNat with
 | none =>
   rw [(h.none_iff _).1 hk]
   refine (names_none h.rep ki hk).mono ?_
   rintro e w' ⟨rfl, rfl⟩
   exact ⟨_, rfl, hnil _ _, by simp, Below.refl _ _⟩
 | some q =>
   obtain ⟨b, n⟩ := q
   obtain ⟨m, hT, hkp⟩ := h.get hk
   rw [hT]
   have hp : (ents n.names).Perm m.names := hkp.names
   cases hm : n.mp with
   | none =>
     have hn := h.rep.nomap _ b n hk hm
     have hmn : m.names = [] := by rw [hn] at hp; exact (List.Perm.nil_eq hp).symm
     refine (names_nomap h.rep ki hk hm).mono ?_
     rintro e w' ⟨rfl, hb⟩
     dsimp only
     rw [hmn]
     exact ⟨_, rfl, hnil _ _, by simp, hb⟩
   | some mb =>
     have hs : ∀ p ∈ n.names, p.1.size ≤ maxLen := fun p hpm => by
      have h1 := h.snd.1.okn _ m (bs p.1, p.2) hT (hp.mem_iff.1 (List.mem_map.2 ⟨p, hpm, rfl⟩))
      have h2 := okN_len h1
      rw [bs_len] at h2
      exact Nat.le_trans h2 (by decide)
     obtain ⟨D0, hown, hpk, hsz⟩ := (h.rep.map _ b n mb hk hm).owns hs (h.rep.small _ b n hk).2
     refine (names_map h.rep ki hk hm D0 hown hsz).mono ?_
     rintro e w' ⟨v, ss, rfl, hS, hrow, hv, hb⟩
     have hss : ss.Perm (m.names.map (·.1)) := by
      refine (hS.trans hpk).trans ?_
      have := hp.map (·.1)
      unfold ents at this
      rw [List.map_map] at this
      exact this
     have hlen : ss.length = (m.names.map (·.1)).length := hss.length_eq
     rw [ord_sorted (h.snd.1.ord _ m hT) hss, hlen] at hrow
     refine ⟨v, rfl, hrow, ?_, hb⟩
     rw [hv]
     constructor
     · intro e; rw [e] at hss; exact (List.Perm.nil_eq hss).symm
     · intro e
       dsimp only at e
       rw [e] at hss; exact hss.eq_nil
end Go.Proofs.YtafonmnfeibaiaaGreat
namespace Go.Proofs.YtafonmnfeibaiaaGreat.RF
open Go.RowKit
theorem ins_sorted {A : List IT.Bytes} (h : A.Pairwise (· ≤ ·)) {x : IT.Bytes} {k : Nat} (hk : k ≤ A.length) (hd : ∀ y ∈ A.drop k, x < y) (ht : k = 0 ∨ ∃ y, A[k - 1]? = some y ∧ ¬ x < y) : (A.take k ++ x :: A.drop k).Pairwise (· ≤ ·) := by
 have h0 : (A.take k ++ A.drop k).Pairwise (· ≤ ·) := by rw [List.take_append_drop]; exact h
 obtain ⟨h1, h2, h3⟩ := List.pairwise_append.1 h0
 refine List.pairwise_append.2 ⟨h1, List.pairwise_cons.2 ⟨fun y hy => List.le_of_lt (hd y hy), h2⟩, fun a ha b hb => ?_⟩
 rcases List.mem_cons.1 hb with rfl | hb
 · rcases ht with rfl | ⟨y, hy, hyx⟩
   · simp at ha
   · have hyx' : y ≤ b := hyx
     obtain ⟨i, hi, rfl⟩ := List.mem_iff_getElem.1 ha
     rw [List.length_take] at hi
     rw [List.getElem_take]
     have hy2 := (List.getElem?_eq_some_iff.1 hy)
     obtain ⟨hkl, hy3⟩ := hy2
     by_cases e : i = k - 1
     · subst e; rw [hy3]; exact hyx'
     · have := List.pairwise_iff_getElem.1 h i (k - 1) (by omega) hkl (by omega)
       rw [hy3] at this
       exact List.le_trans this hyx'
 · exact h3 a ha b hb
theorem ins_perm {α : Type} (A : List α) (x : α) (k : Nat) : (A.take k ++ x :: A.drop k).Perm (A ++ [x]) := by
 refine (List.perm_middle).trans ?_
 rw [List.take_append_drop]
 exact (List.perm_append_singleton x A).symm
def Nr (w : World) (base : Nat) (v : Value) (A : List ByteArray) : Prop := w.ownsRow base 9 1 v A.length (A.map Value.string)
theorem Nr.below {w w' : World} {base : Nat} {v : Value} {A : List ByteArray} (h : Nr w base v A) (hb : Below w.heap.size w w') : Nr w' base v A := by
 obtain ⟨h1, ⟨h2, h3⟩ | ⟨g, cap, cur, h2, hg, hh, rest⟩⟩ := h
 · exact ⟨h1, .inl ⟨h2, h3⟩⟩
 · exact ⟨h1, .inr ⟨g, cap, cur, h2, hg, (hb.block g (lH hh)).trans hh, rest⟩⟩
theorem Nr.lit {w : World} {base : Nat} {v : Value} {A : List ByteArray} (h : Nr w base v A) : ∃ a cap, v = .slice a A.length cap ∧ A.length ≤ cap ∧ cap ≤ maxLen ∧ ∀ (j : Nat) (x : ByteArray), A[j]? = some x → ∃ g : Nat, a = some ⟨g, 0, none⟩ ∧ base ≤ g ∧ w.cell? ⟨g, j, none⟩ = some (.string x) ∧ w.frozen? ⟨g, j, none⟩ = false ∧ ∀ y, Nr (w.setCell ⟨g, j, none⟩ (.string y)) base v (A.set j y) := by
 have h' := h
 obtain ⟨h1, h2⟩ := h
 rcases h2 with ⟨e1, e2⟩ | ⟨g, cap, cur, e1, e2, e3, e4, e5, e6, e7⟩
 · refine ⟨none, 0, by rw [e1, e2], by omega, by decide, fun j p hp => ?_⟩
   have := (List.getElem?_eq_some_iff.1 hp).1
   omega
 · refine ⟨_, cap, e1, by omega, e5, fun j x hx => ⟨g, rfl, e2, ?_, fO e3 _, fun y => ?_⟩⟩
   · have hj := (List.getElem?_eq_some_iff.1 hx).1
     have f1 : (A.map Value.string)[j]? = some (Value.string x) := by rw [List.getElem?_map, hx]; rfl
     rw [cO e3]
     rw [← e7] at f1
     rw [List.getElem?_take_of_lt (by omega)] at f1
     simpa using f1
   · have h3 : w.ownsRow base 9 1 (.slice (some ⟨g, 0, none⟩) A.length cap) A.length (A.map Value.string) := by rw [← e1]; exact h'
     have h4 := (h3.stored j (.string y)).1
     unfold Nr
     rw [List.length_set, e1, List.map_set]
     exact h4
structure NmI (w wr : World) (v : Value) (A : List ByteArray) (P : List (ByteArray × Nat)) : Prop where
 row : Nr wr w.heap.size v A
 bel : Below w.heap.size w wr
 ord : (A.map bs).Pairwise (· ≤ ·)
 mem : A.Perm (P.map (·.1))
 nil : v = .slice none 0 0 ↔ A = []
theorem NmI.step {w wr W : World} {v v0 : Value} {A : List ByteArray} {E : List (ByteArray × Nat)} {i k : Nat} {p : ByteArray × Nat} {x : ByteArray} (h : NmI w wr v0 A (E.take i)) (hrow : Nr W w.heap.size v (A.take k ++ x :: A.drop k)) (hb : Below w.heap.size w W) (hp : E[i]? = some p) (hx : p.1 = x) (hk : k ≤ A.length) (hd : ∀ y ∈ A.drop k, bs x < bs y) (ht : k = 0 ∨ ∃ y, A[k - 1]? = some y ∧ ¬ bs x < bs y) (hv : v ≠ .slice none 0 0) : NmI w W v (A.take k ++ x :: A.drop k) (E.take (i + 1)) where
 row := hrow
 bel := hb
 ord := by
  rw [List.map_append, List.map_cons, List.map_take, List.map_drop]
  refine ins_sorted h.ord (by rw [List.length_map]; exact hk) (fun y hy => ?_) ?_
  · rw [← List.map_drop] at hy
    obtain ⟨z, hz, rfl⟩ := List.mem_map.1 hy
    exact hd z hz
  · rcases ht with e | ⟨y, e1, e2⟩
    · exact .inl e
    · exact .inr ⟨bs y, by rw [List.getElem?_map, e1]; rfl, e2⟩
 mem := by
  refine (ins_perm A x k).trans ?_
  rw [List.take_add_one, hp, List.map_append]
  subst hx
  exact List.Perm.append_right _ h.mem
 nil := ⟨fun e => absurd e hv, fun e => by simp at e⟩
end Go.Proofs.YtafonmnfeibaiaaGreat.RF
namespace Go.Proofs.YtafonmnfeibaiaaGreat
open Go.RowKit
def Sl (w : World) (v : Value) (l : List ByteArray) : Prop :=
 ∃ a cap, v = .slice a l.length cap ∧ ∀ j (h : j < l.length), ∃ b off, a = some ⟨b, off, none⟩ ∧ w.cell? ⟨b, off + j, none⟩ = some (.string l[j])
theorem Sl.of_own {w : World} {base : Nat} {v : Value} {l : List ByteArray} (h : w.ownsRow base 9 1 v l.length (l.map .string)) : Sl w v l := by
 obtain ⟨_, ⟨rfl, h0⟩ | ⟨g, cap, cur, rfl, hb, hh, hn, hc, hs, ht⟩⟩ := h
 · exact ⟨none, 0, by rw [h0], fun j hj => by omega⟩
 · refine ⟨_, cap, rfl, fun j hj => ⟨g, 0, rfl, ?_⟩⟩
   have h1 : (l.map Value.string)[j]? = some (.string l[j]) := by simp [hj]
   rw [← ht, List.getElem?_take] at h1
   rw [if_pos (by omega)] at h1
   simpa [World.cell?, hh] using h1
theorem same_eq (w : World) (v u : Value) (l : List ByteArray) (h : Sl w v l) (g : Sl w u l) (hl : l.length ≤ 1000000) :
  Calls Tryz.prog 27 #[v, u] w fun e w' => e = .returned (.bool true) ∧ ∃ k, w' = w.drewN k := by
 obtain ⟨a, ca, rfl, ha⟩ := h
 obtain ⟨b, cb, rfl, hb⟩ := g
 have HA := Hd ha
 have HB := Hd hb
 have hl1 : (l.length : Int) ≤ 1000000 := by omega
 clear ha hb
 go_enter Tryz.func27, Tryz.ntmps27
 go_wp2
 go_loopw [5] (fun i wr => ∃ k q : Nat, k ≤ l.length ∧ i = .int .i64 k ∧ wr = w.drewN q) (fun i _ => l.length - (intOf i).toNat)
 case atStart => exact ⟨0, 0, Nat.zero_le _, rfl, rfl⟩
 case round =>
  obtain ⟨k, q, hk, rfl, rfl⟩ := hrel
  by_cases hlt : k < l.length
  · obtain ⟨ba, oa, rfl, hca⟩ := HA.out k hlt
    obtain ⟨bb, ob, rfl, hcb⟩ := HB.out k hlt
    generalize l[k] = x at hca hcb
    have hlt1 : (k : Int) < l.length := by omega
    go_wp2
    go_quiet (fail)
    go_wp2
    go_roundw
    case rel => exact ⟨k + 1, q + nq, by omega, by go_num, rfl⟩
    case measure => simp [intOf]; omega
  · go_wp2
    go_ret
    exact ⟨rfl, _, rfl⟩
theorem Sl.names {w : World} {base : Nat} {T : IT.Tr} {k : Nat} {v : Value} (h : w.ownsRow base 9 1 v (namesT T k).length ((namesT T k).map encStr)) : Sl w v ((namesT T k).map tx) := by
 refine Sl.of_own (base := base) ?_
 rw [List.length_map, List.map_map]
 exact h
theorem Sl.below {w w' : World} {v : Value} {l : List ByteArray} (h : Sl w v l) (hb : Below w.heap.size w w') : Sl w' v l := by
 obtain ⟨a, cap, e, hc⟩ := h
 refine ⟨a, cap, e, fun j hj => ?_⟩
 obtain ⟨b, off, e1, e2⟩ := hc j hj
 exact ⟨b, off, e1, (hb.cell (p := ⟨b, off + j, none⟩) (World.block_lt_of_cell? w ⟨b, off + j, none⟩ e2)).trans e2⟩
end Go.Proofs.YtafonmnfeibaiaaGreat
