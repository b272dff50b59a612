/-
  It is proved that WalkOpens returns true for every input of bulk at most 1048576: whatever tree some steps have made and whatever is opened by whom: if it is OK, each directory on the way may be searched, what was there may be read and written as is wanted, and what was not is made in a directory that may be written, and is of the one who asks.
  Conditions: none beyond the statement's own (the reading of the arguments, its bulk; internal/bytealg.MaxLen is named, not read).
-/
import Derived.Test.YtafonmnfeibaiaaGreatAll5
import Derived.Test.YtafonmnfeibaiaaGreatAll4
import Derived.Test.YtafonmnfeibaiaaGreatAll6
import Derived.Test.YtafonmnfeibaiaaGreatRows
import Derived.WalkKit
import Derived.ProofKit
import Derived.OpenShut
import Derived.ShutString
import Derived.ChangeOld
import Derived.SliceStrings
import Derived.JoinedCond
import Derived.Below
set_option linter.all false
set_option maxRecDepth 100000
set_option maxHeartbeats 40000000
namespace Go.Proofs.YtafonmnfeibaiaaGreat
open Go.RowKit
def P7 (W : World) (b5 b6 : Nat) (V H : Array Value) : Prop := W.heap[b5]? = some (.cells V 24 (0, 0)) ∧ W.heap[b6]? = some (.cells H 29 (0, 0))
theorem P7.lay {W W' : World} {b5 b6 : Nat} {V H : Array Value} (h : P7 W b5 b6 V H) (hl : Lay W W') : P7 W' b5 b6 V H :=
 ⟨hl.2 _ _ _ _ h.1 (by decide) (by decide) (by decide), hl.2 _ _ _ _ h.2 (by decide) (by decide) (by decide)⟩
theorem P7.cells {W : World} {b5 b6 : Nat} {K cwd uid gid : Int} {s u : ByteArray} {mo N oa ob : Int} {v0 v1 v2 v3 v4 v5 : Value} (h : P7 W b5 b6 (op7 K cwd uid gid s u mo N oa ob) #[v0, v1, v2, v3, v4, v5]) : W.cell? ⟨b5, 0, none⟩ = some (.int .i64 K) ∧ W.cell? ⟨b5, 1, none⟩ = some (.int .i64 cwd) ∧ W.cell? ⟨b5, 2, none⟩ = some (.int .i64 uid) ∧ W.cell? ⟨b5, 3, none⟩ = some (.int .i64 gid) ∧ W.cell? ⟨b5, 4, none⟩ = some (.string s) ∧ W.cell? ⟨b6, 0, none⟩ = some v0 ∧ W.cell? ⟨b6, 1, none⟩ = some v1 ∧ W.cell? ⟨b6, 2, none⟩ = some v2 ∧ W.cell? ⟨b6, 3, none⟩ = some v3 ∧ W.cell? ⟨b6, 4, none⟩ = some v4 ∧ W.cell? ⟨b6, 5, none⟩ = some v5 :=
 ⟨cell_of h.1 0, cell_of h.1 1, cell_of h.1 2, cell_of h.1 3, cell_of h.1 4, cell_of h.2 0, cell_of h.2 1, cell_of h.2 2, cell_of h.2 3, cell_of h.2 4, cell_of h.2 5⟩
theorem opens7_any (a : Option Addr) (len cap : Nat) (w : World) (hl : len ≤ maxLen) (h0 : Ops7 w w.heap.size a len) (K cwd uid gid : Int) (s u : ByteArray) (mo N oa ob : Int) :
  Calls Tryz.prog 3 #[.slice a len cap, .agg #[.int .i64 K, .int .i64 cwd, .int .i64 uid, .int .i64 gid, .string s, .string u, .int .i64 mo, .int .i64 N, .int .i64 oa, .int .i64 ob]] w fun e w' => e = .returned (.bool true) ∧ Below w.heap.size w w' := by
 have HS := Hd h0
 have HHW := Hd (fun W' => how_any K cwd uid gid s u mo N oa ob W')
 obtain ⟨⟨want, make, alone, empty, fin, mode⟩, hho⟩ : ∃ ho, how7 mo N = ho := ⟨_, rfl⟩
 rw [hho] at HHW
 unfold howV at HHW
 dsimp only at HHW
 clear hho h0
 go_enter Tryz.func3, Tryz.ntmps3
 go_wp2_with fail
 refine (shown7_any _).mono ?_
 rintro e w1 ⟨rfl, hb⟩
 have HB1 := Hd (one_below hb)
 have h1 : w1.heap[w.heap.size]? = some (.cells (op7 K cwd uid gid s u mo N oa ob) 24 (0, 0)) := (hb.block _ (by rw [alloc_size]; omega)).trans (alloc_heap w _)
 have HO := Hd h1
 clear hb h1
 go_wp2_with fail
 refine (some7_any a len cap w w1 hl HS.out HB1.out).mono ?_
 rintro e w2 ⟨t, S, T, rfl, hd, hhb, hmr⟩
 have h1 := (hd.own.below.block _ (lt_of_heap HO.out)).trans HO.out
 have HD := Hd hd
 have HX := Hd (hhb.mono (show 61 ≤ 999999 by omega))
 clear hd hhb hmr HO HS
 have o0 : w2.cell? ⟨w.heap.size, 0, none⟩ = some (.int .i64 K) := cell_of h1 0
 have o1 : w2.cell? ⟨w.heap.size, 1, none⟩ = some (.int .i64 cwd) := cell_of h1 1
 have o2 : w2.cell? ⟨w.heap.size, 2, none⟩ = some (.int .i64 uid) := cell_of h1 2
 have o3 : w2.cell? ⟨w.heap.size, 3, none⟩ = some (.int .i64 gid) := cell_of h1 3
 have o4 : w2.cell? ⟨w.heap.size, 4, none⟩ = some (.string s) := cell_of h1 4
 have o5 : w2.cell? ⟨w.heap.size, 5, none⟩ = some (.string u) := cell_of h1 5
 have o6 : w2.cell? ⟨w.heap.size, 6, none⟩ = some (.int .i64 mo) := cell_of h1 6
 have o7 : w2.cell? ⟨w.heap.size, 7, none⟩ = some (.int .i64 N) := cell_of h1 7
 have o8 : w2.cell? ⟨w.heap.size, 8, none⟩ = some (.int .i64 oa) := cell_of h1 8
 have o9 : w2.cell? ⟨w.heap.size, 9, none⟩ = some (.int .i64 ob) := cell_of h1 9
 have HO := Hd h1
 clear h1
 go_wp2_with fail
 refine (HHW.out _).mono ?_
 rintro e w3 ⟨rfl, hb3⟩
 have HB3 := Hd hb3
 go_upto_region 6 with fail
 have h1 : P7 (w3.alloc (.cells #[.int .i64 want, .bool make, .bool alone, .bool empty, .bool fin, .int .i64 mode] 29)) w.heap.size w3.heap.size (op7 K cwd uid gid s u mo N oa ob) #[.int .i64 want, .bool make, .bool alone, .bool empty, .bool fin, .int .i64 mode] :=
  ⟨(alloc_heap_old _ _ (lt_of_heap ((HB3.out.block _ (lt_of_heap HO.out)).trans HO.out))).trans ((HB3.out.block _ (lt_of_heap HO.out)).trans HO.out), alloc_heap _ _⟩
 have hd := HD.out.below (belowA HB3.out (.cells #[.int .i64 want, .bool make, .bool alone, .bool empty, .bool fin, .int .i64 mode] 29))
 generalize w3.alloc (.cells #[.int .i64 want, .bool make, .bool alone, .bool empty, .bool fin, .int .i64 mode] 29) = W at *
 obtain ⟨b6, hb6⟩ : ∃ b6, w3.heap.size = b6 := ⟨_, rfl⟩
 rw [hb6] at h1
 rw [hb6]
 have HP := Hd h1
 clear HD HO HB3 hb3 hb6 o0 o1 o2 o3 o4 o5 o6 o7 o8 o9 h1
 have HD := Hd hd
 clear hd
 obtain ⟨o0, o1, o2, o3, o4, c0, c1, c2, c3, c4, c5⟩ := HP.out.cells
 go_wp2_with fail
 refine (searched7_any HD.out.tre cwd s uid gid).mono ?_
 rintro e w4 ⟨rfl, hb⟩
 obtain ⟨way, hway⟩ : ∃ way, seaT T cwd (bs s) uid gid = way := ⟨_, rfl⟩
 rw [hway]
 have HWAY := Hd hway
 have HD4 := Hd (HD.out.below hb)
 have HP4 := Hd (HP.out.lay (Lay.below hb))
 clear hway hb HD HP o0 o1 o2 o3 o4 c0 c1 c2 c3 c4 c5
 obtain ⟨o0, o1, o2, o3, o4, c0, c1, c2, c3, c4, c5⟩ := HP4.out.cells
 obtain ⟨pd, pn, pe, hpw, hall⟩ := opens_all HD4.out.snd uid gid cwd s ⟨want, make, alone, empty, fin, mode⟩
 have HPW : Hid (∀ W', Below w4.heap.size w4 W' → Calls Tryz.prog 12 #[.pointer (some ⟨t, 0, none⟩), .int .i64 cwd, .agg #[.int .i64 uid, .int .i64 uid, .int .i64 uid, .int .i64 gid, .int .i64 gid], .string s] W' fun e w' => e = .returned (.tuple #[.int .i64 pd, .string pn, .int .i64 pe]) ∧ Below W'.heap.size W' w') := Hd (fun W' hb => by
  have := walkParent_any (HD4.out.below hb).tre cwd (whoC uid gid) s
  rw [hpw] at this
  exact this)
 have HWHO : Hid (∀ W', Calls Tryz.prog 13 #[.int .i64 uid, .int .i64 gid] W' fun e w' => e = .returned (.agg #[.int .i64 uid, .int .i64 uid, .int .i64 uid, .int .i64 gid, .int .i64 gid]) ∧ Below W'.heap.size W' w') := Hd (fun W' => who_any uid gid W')
 have HALL := Hd hall
 clear hpw hall
 have KP : ∀ W' : World, P7 W' w.heap.size b6 (op7 K cwd uid gid s u mo N oa ob) #[.int .i64 want, .bool make, .bool alone, .bool empty, .bool fin, .int .i64 mode] → (W'.cell? ⟨w.heap.size, 0, none⟩ = some (.int .i64 K) ∧ W'.cell? ⟨w.heap.size, 1, none⟩ = some (.int .i64 cwd) ∧ W'.cell? ⟨w.heap.size, 2, none⟩ = some (.int .i64 uid) ∧ W'.cell? ⟨w.heap.size, 3, none⟩ = some (.int .i64 gid) ∧ W'.cell? ⟨w.heap.size, 4, none⟩ = some (.string s) ∧ W'.cell? ⟨b6, 0, none⟩ = some (.int .i64 want) ∧ W'.cell? ⟨b6, 1, none⟩ = some (.bool make) ∧ W'.cell? ⟨b6, 2, none⟩ = some (.bool alone) ∧ W'.cell? ⟨b6, 3, none⟩ = some (.bool empty) ∧ W'.cell? ⟨b6, 4, none⟩ = some (.bool fin) ∧ W'.cell? ⟨b6, 5, none⟩ = some (.int .i64 mode)) := fun W' hh => hh.cells
 go_wp2_with fail
 go_region_held3 (fun W' => W'.cell? ⟨w.heap.size, 0, none⟩ = some (.int .i64 K) ∧ W'.cell? ⟨w.heap.size, 1, none⟩ = some (.int .i64 cwd) ∧ W'.cell? ⟨w.heap.size, 2, none⟩ = some (.int .i64 uid) ∧ W'.cell? ⟨w.heap.size, 3, none⟩ = some (.int .i64 gid) ∧ W'.cell? ⟨w.heap.size, 4, none⟩ = some (.string s) ∧ W'.cell? ⟨b6, 0, none⟩ = some (.int .i64 want) ∧ W'.cell? ⟨b6, 1, none⟩ = some (.bool make) ∧ W'.cell? ⟨b6, 2, none⟩ = some (.bool alone) ∧ W'.cell? ⟨b6, 3, none⟩ = some (.bool empty) ∧ W'.cell? ⟨b6, 4, none⟩ = some (.bool fin) ∧ W'.cell? ⟨b6, 5, none⟩ = some (.int .i64 mode))
  (first | (refine KP _ ?_; first | with_reducible exact HP4.out | exact hp6 | exact hp5 | exact HP4.out))
  (first
    | (go_at_call 13; refine (HWHO.out _).mono ?_; rintro e w5 ⟨rfl, hb5⟩; have hbw : Below w4.heap.size w4 w5 := (Below.refl w4.heap.size w4).drew.trans hb5; have hp5 := HP4.out.lay (Lay.below hbw))
    | (go_at_call 12; refine (HPW.out _ hbw).mono ?_; rintro e w6 ⟨rfl, hb6⟩; have hbx : Below w4.heap.size w4 w6 := hbw.trans (hb6.mono hbw.size); have hp6 := HP4.out.lay (Lay.below hbx)))
 have HD6 := Hd (HD4.out.below hbx)
 have HP6 := Hd hp6
 clear hbw hbx hp5 hp6 HPW HP4 HD4 o0 o1 o2 o3 o4 c0 c1 c2 c3 c4 c5
 obtain ⟨o0, o1, o2, o3, o4, c0, c1, c2, c3, c4, c5⟩ := HP6.out.cells
 obtain ⟨lk, hlk⟩ : ∃ lk, lookT T pd.toNat (bs pn) = lk := ⟨_, rfl⟩
 have HLK : Hid (Calls Tryz.prog 14 #[.pointer (some ⟨t, 0, none⟩), .int .i64 pd, .string pn] w6 fun e w' => e = .returned (lookV lk) ∧ w6 = w') := Hd (by rw [← hlk]; exact look_any HD6.out.tre pd pn)
 rw [hlk] at HALL
 clear hlk
 go_wp2_with fail
 refine HLK.out.mono ?_
 rintro e w7 ⟨rfl, rfl⟩
 unfold lookV
 clear HLK
 obtain ⟨can, hcan⟩ : ∃ can, (match lk with
  | none => false
  | some k => mayT T k uid gid want) = can := ⟨_, rfl⟩
 cases lk
 case' none =>
  dsimp only [Option.getD, Option.isSome] at hcan ⊢
  subst hcan
  have HC : Hid (∀ k, (none : Option Nat) = some k → mayT T k uid gid want = false) := Hd fun k hk => by cases hk
  have HPD := Hd HP6.out
  have HDD := Hd HD6.out
  go_wp2_with fail
 case' some k =>
  dsimp only [Option.getD, Option.isSome] at hcan ⊢
  have HC : Hid (∀ k', some k = some k' → mayT T k' uid gid want = can) := Hd fun k' hk => by cases hk; exact hcan
  clear hcan
  go_wp2_with fail
  refine (may7_any HD6.out.tre k uid gid want).mono ?_
  rintro e w8 ⟨rfl, hb⟩
  rw [Int.toNat_natCast, HC.out k rfl]
  have HPD := Hd (HP6.out.lay (Lay.below hb))
  have HDD := Hd (HD6.out.below hb)
  clear hb o0 o1 o2 o3 o4 c0 c1 c2 c3 c4 c5
  obtain ⟨o0, o1, o2, o3, o4, c0, c1, c2, c3, c4, c5⟩ := HPD.out.cells
  go_wp2_with fail
 all_goals
  refine (may7_any HDD.out.tre pd uid gid 2).mono ?_
  rintro e w9 ⟨rfl, hb⟩
  obtain ⟨wri, hwri⟩ : ∃ wri, mayT T pd.toNat uid gid 2 = wri := ⟨_, rfl⟩
  rw [hwri]
  rw [hwri] at HALL
  clear hwri
  have HP9 := Hd (HPD.out.lay (Lay.below hb))
  have HD9 := Hd (HDD.out.below hb)
  clear hb HPD HDD HP6 HD6 o0 o1 o2 o3 o4 c0 c1 c2 c3 c4 c5
  obtain ⟨o0, o1, o2, o3, o4, c0, c1, c2, c3, c4, c5⟩ := HP9.out.cells
  go_wp2_with fail
  go_region_held3 (fun W' => W'.cell? ⟨w.heap.size, 0, none⟩ = some (.int .i64 K) ∧ W'.cell? ⟨w.heap.size, 1, none⟩ = some (.int .i64 cwd) ∧ W'.cell? ⟨w.heap.size, 2, none⟩ = some (.int .i64 uid) ∧ W'.cell? ⟨w.heap.size, 3, none⟩ = some (.int .i64 gid) ∧ W'.cell? ⟨w.heap.size, 4, none⟩ = some (.string s) ∧ W'.cell? ⟨b6, 0, none⟩ = some (.int .i64 want) ∧ W'.cell? ⟨b6, 1, none⟩ = some (.bool make) ∧ W'.cell? ⟨b6, 2, none⟩ = some (.bool alone) ∧ W'.cell? ⟨b6, 3, none⟩ = some (.bool empty) ∧ W'.cell? ⟨b6, 4, none⟩ = some (.bool fin) ∧ W'.cell? ⟨b6, 5, none⟩ = some (.int .i64 mode))
   (first | (refine KP _ ?_; first | with_reducible exact HP9.out | exact hpb | exact hpa | exact HP9.out))
   (first
     | (go_at_call 13; refine (HWHO.out _).mono ?_; rintro e wa ⟨rfl, hba⟩; have hbw : Below w9.heap.size w9 wa := (Below.refl w9.heap.size w9).drew.trans hba; have hpa := HP9.out.lay (Lay.below hbw))
     | (go_at_call 16; refine (walkOpen_any (HD9.out.below hbw).tre HX.out cwd (whoC uid gid) s ⟨want, make, alone, empty, fin, mode⟩).mono ?_; rintro e wb ⟨i1, r1, rfl, hst⟩; obtain ⟨S1, T1, hdb, hr1, hlb⟩ := (HD9.out.below hbw).lay hst (fun _ hh => isOpen.sound hh HD9.out.snd); have hpb := hpa.lay hlb))
  have HPB := Hd hpb
  have HDB := Hd hdb
  have HR1 := Hd hr1
  clear hpa hpb hdb hr1 hlb hbw HP9 HD9 o0 o1 o2 o3 o4 c0 c1 c2 c3 c4 c5 KP
  have HFIN : Hid (∀ W', Below wb.heap.size wb W' → Below w.heap.size w W') := Hd fun W' hb => HB1.out.trans ((HDB.out.below hb).own.below.mono HB1.out.size)
  obtain ⟨o0, o1, o2, o3, o4, c0, c1, c2, c3, c4, c5⟩ := HPB.out.cells
  by_cases hz : r1 = 0
  case' neg =>
   have hi := opens_no HR1.out hz
   subst hi
   have hz1 : (r1 != 0) = true := by simpa using hz
   clear hz
   go_wp2
   go_ret
   exact ⟨rfl, HFIN.out _ (Below.refl _ _)⟩
  case' pos =>
   subst hz
   obtain ⟨h1, h2, h3⟩ := HALL.out _ _ HR1.out
   obtain rfl : way = true := HWAY.out.symm.trans h1
   clear h1
   by_cases hpe : pe = 0
   · subst hpe
     have h4 := h3 rfl
     clear h2 h3
     first
      | (obtain ⟨e1, e2, e3⟩ := h4.1 _ rfl
         have e4 := (HC.out _ rfl).symm.trans e2
         subst e1
         subst e4
         clear h4 e2
         cases make with
         | false =>
           go_wp2
           go_ret
           exact ⟨rfl, HFIN.out _ (Below.refl _ _)⟩
         | true =>
           have e5 : alone = false := by simpa using e3
           subst e5
           go_wp2
           go_ret
           exact ⟨rfl, HFIN.out _ (Below.refl _ _)⟩)
      | (obtain ⟨e1, e2, e3⟩ := h4.2 (by trivial)
         obtain ⟨z, y, hst, his⟩ := made_stat e3
         have HST : Hid (Calls Tryz.prog 17 #[.pointer (some ⟨t, 0, none⟩), .int .i64 i1] wb fun e w' => e = .returned (.tuple #[.agg #[.int .i64 i1, .int .i64 0, .int .i64 mode, .int .i64 uid, .int .i64 gid, .int .i64 1, .int .i64 z, .int .i64 y], .bool true]) ∧ Below wb.heap.size wb w') := Hd (by
          have := stat_any HDB.out.tre i1
          rw [Int.toNat_natCast, hst, his] at this
          exact this)
         have e4 : make = true := e1
         subst e4
         subst e2
         clear h4 e1 e3 hst his
         go_wp2_with fail
         refine HST.out.mono ?_
         rintro e wc ⟨rfl, hb⟩
         have HBC := Hd hb
         have HPC := Hd (HPB.out.lay (Lay.below hb))
         clear hb o0 o1 o2 o3 o4 c0 c1 c2 c3 c4 c5
         obtain ⟨o0, o1, o2, o3, o4, c0, c1, c2, c3, c4, c5⟩ := HPC.out.cells
         have l5 : w.heap.size < wc.heap.size := lt_of_heap HPC.out.1
         have l6 : b6 < wc.heap.size := lt_of_heap HPC.out.2
         go_wp2
         go_ret
         exact ⟨rfl, HFIN.out _ (belowA HBC.out _)⟩)
   · obtain ⟨hmk, hmy⟩ := h2 hpe
     have hmk2 : make = false := hmk
     subst hmk2
     clear h2 h3
     have hpe1 : (pe != 0) = true := by simpa using hpe
     have HM := Hd hmy
     clear hmy hpe
     go_wp2_with fail
     refine (may7_any HDB.out.tre i1 uid gid want).mono ?_
     rintro e wc ⟨rfl, hb⟩
     rw [Int.toNat_natCast, HM.out]
     go_wp2
     go_ret
     exact ⟨rfl, HFIN.out _ hb⟩
end Go.Proofs.YtafonmnfeibaiaaGreat
namespace Go.Proofs.YtafonmnfeibaiaaGreat.walkOpens
open Go.ChangeShapes Go.WideShapes Go.ChangeAt Go.RowKit
open Go.ChangeMaps (open_string shut_string)
set_option linter.unusedVariables false
theorem own : ownKnob Tryz.prog.godebug = none := by kernel_rfl
theorem laidOut : laidOutB Tryz.prog = true := by kernel_rfl
theorem lifted (os : Os) (started : os.Started) (H : Type) (enc : TypeId × Value → H) (F0 : Stop.Interp) :
  ReturnsInHanded {} Tryz.checked os 3 .any ((Rows.OpenSpec.upto Rows.walkOpensSpec).pre6 enc Tryz.prog Tryz.f3 Rows.walkOpensUptoRow.domain false) (((Rows.OpenSpec.upto Rows.walkOpensSpec).at F0).post enc Tryz.prog Tryz.f3 false true false false) := by
 refine returnsInHanded_of_cond (C := Tryz.checked) (s := (Rows.OpenSpec.upto Rows.walkOpensSpec)) (k := Rows.uptoSmall) rfl own started (by kernel_rfl) Tryz.func3
  (OpenSpec.witness (enc := enc) (C := Tryz.checked) (s := (Rows.OpenSpec.upto Rows.walkOpensSpec)) (k := Rows.uptoSmall) rfl false ⟨#[], #[.slice none 0 0, .agg #[.int .i64 0, .int .i64 0, .int .i64 0, .int .i64 0, .string ⟨#[]⟩, .string ⟨#[]⟩, .int .i64 0, .int .i64 0, .int .i64 0, .int .i64 0]], []⟩ 8 (by kernel_rfl) (by kernel_rfl) (by kernel_rfl)
    (x := ([.nil, .agg [.lit (.int .i64 0), .lit (.int .i64 0), .lit (.int .i64 0), .lit (.int .i64 0), .lit (.string []), .lit (.string []), .lit (.int .i64 0), .lit (.int .i64 0), .lit (.int .i64 0), .lit (.int .i64 0)]], [], [])) (by kernel_rfl) (by kernel_rfl) (by kernel_rfl)) ?_
 intro W base args ds gs before hval0 hW hcnd hu0 _
 have hval : ∀ (j : Nat) t v, Tryz.f3.params[j]? = some t → args[j]? = some v → Value.okWide Tryz.prog W .any base t v := hval0
 have hW' := hW
 obtain ⟨p, q, hA0, hV, rfl, hfz, hnd⟩ := hW
 have hA : DataW.TrodAll enc Tryz.prog W 0 (fun _ => true) true Tryz.f3.params.toList args.toList ds p := hA0
 rw [Tryz.params3] at hA hval
 obtain ⟨v0, vs0, d0, ds0, p0, q0, hargs, rfl, rfl, h0, r0⟩ := trodAll_cons hA
 obtain ⟨v1, vs1, d1, ds1, p1, q1, rfl, rfl, rfl, h1, r1⟩ := trodAll_cons r0
 obtain ⟨rfl, rfl, rfl⟩ := trodAll_nil r1
 obtain rfl : args = #[v0, v1] := by cases args; simp_all
 obtain ⟨rfl, rfl⟩ := trodVars_none hV
 have hu : Rows.uptoBulkAll [d0, d1] ≤ 1048576 := of_decide_eq_true hu0
 simp only [Rows.uptoBulkAll] at hu
 obtain ⟨a0, len0, cap0, rfl⟩ := okWide_slice Tryz.underlying22 (hval 0 22 v0 rfl rfl)
 have lt0 : ∀ x ∈ p0, x.block < W.heap.size := by obtain ⟨m, hm⟩ := h0; exact DataW.trod_lt m _ _ _ hm
 obtain ⟨m0, w0⟩ := ops7_of h0 (by omega)
 have lt1 : ∀ x ∈ p1, x.block < W.heap.size := by obtain ⟨m, hm⟩ := h1; exact DataW.trod_lt m _ _ _ hm
 obtain ⟨K1, cwd1, uid1, gid1, s1, u1, mo1, N1, oa1, ob1, rfl, w1⟩ := op7_arg (hval 1 24 v1 rfl rfl) h1 (by omega)
 clear hA0 hval0
 refine (opens7_any a0 len0 cap0 W m0 w0 K1 cwd1 uid1 gid1 s1 u1 mo1 N1 oa1 ob1).mono fun e W' ⟨he, bel⟩ => ?_
 subst he
 exact ⟨_, rfl, _, _, _, [], _, [], hW', trodAll_mk1 (shut_bool Tryz.underlying4 _), (trodAll_cons_mk (Below.trod laidOut (by kernel_rfl) (of_decide_eq_true (by kernel_rfl)) h0 bel lt0) (trodAll_cons_mk (Below.trod laidOut (by kernel_rfl) (of_decide_eq_true (by kernel_rfl)) h1 bel lt1) trodAll_mk0)), rfl, bel.frame _, fun h => by cases h⟩
theorem proved : Rows.WalkOpensUptoSaid :=
 OpenClaim.holds_of_cond 3 Tryz.f3 rfl rfl rfl rfl rfl rfl rfl ⟨rfl, rfl, rfl, rfl, rfl⟩ rfl rfl rfl rfl rfl (by kernel_rfl) Tryz.func3 (by kernel_rfl)
  (of_decide_eq_true (by kernel_rfl)) (by unfold Func.isWrapper; first | (rw [if_pos (by decide +kernel)]; kernel_rfl) | (rw [if_neg (by decide +kernel)]; exact ⟨rfl, rfl⟩))
  (fun os started H enc _ F0 => lifted os started H enc F0)
#print axioms proved
end Go.Proofs.YtafonmnfeibaiaaGreat.walkOpens
