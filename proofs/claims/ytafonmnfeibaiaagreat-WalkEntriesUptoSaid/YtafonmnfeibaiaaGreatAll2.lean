/- Part 3 of the proof: contracts of functions that the statement reaches, and plain lemmas. -/
import Derived.Test.YtafonmnfeibaiaaGreatAll1
import Derived.Test.YtafonmnfeibaiaaGreatAll0
import Derived.Deep.Draws
import Derived.StillTailTactics
import Derived.BigQuiet
import Derived.RegionTactic
import Derived.BigRegion
import Derived.ChangeAlike
import Derived.Deep.QuietTactic
import Derived.Lib.IndexLaws
import Derived.Lib.TrimByte
import Derived.Lib.LastIndexByte
import Derived.WalkKit
import Derived.WalkLawsBesides
import Derived.WalkSpells
import Derived.Outline
import Derived.Below
import Derived.Lib.Hide
import Derived.OwnWalk
import Derived.Maps.AppendAt
import Derived.RangeFuncNested
import Derived.RangeFuncBound
import Derived.RangeFuncCalls
import Derived.RangeFuncLeaves
import Derived.Shelf.Abstract
import Derived.Shelf.RegionOpen
import Derived.OwnWalkIn
import Derived.TacticsInMore
import Derived.LoopNIn
import Derived.LoopIn
import Derived.Laws.ResultCell
import Derived.Deep.RegionHeld3
import Derived.IntWalk
import Derived.Deep.Cut
set_option linter.all false
set_option maxRecDepth 100000
set_option maxHeartbeats 100000000
namespace Go.Proofs.YtafonmnfeibaiaaGreat
open Go.RowKit
theorem enter_no {w : World} {t : Nat} {S : Tab} (h : Rep w t S) (d i : Int) (s : ByteArray) (hn : S d.toNat = none ∨ S i.toNat = none) :
  Calls Tryz.prog 50 #[.pointer (some ⟨t, 0, none⟩), .int .i64 d, .string s, .int .i64 i] w fun e w' => e = .returned (.int .i64 3) ∧ w = w' := by
 have H := Hd h
 have HN := Hd hn
 clear h hn
 go_enter Tryz.func50, Tryz.ntmps50
 go_wp2_with fail
 refine (pair_none H.out _ _ HN.out).mono ?_
 rintro e w' ⟨rfl, rfl⟩
 go_wp2
 go_ret
 exact ⟨rfl, rfl⟩
theorem enter_nodir {w : World} {t bd bn : Nat} {S : Tab} {nd nn : Nd} (h : Rep w t S) (d i : Int) (hd : S d.toNat = some (bd, nd)) (hi : S i.toNat = some (bn, nn)) (s : ByteArray) (hkd : ¬ nd.kind = 1) :
  Calls Tryz.prog 50 #[.pointer (some ⟨t, 0, none⟩), .int .i64 d, .string s, .int .i64 i] w fun e w' => e = .returned (.int .i64 6) ∧ w = w' := by
 have c1 := h.c1 hd
 have hkb : (nd.kind != 1) = true := by simpa using hkd
 have H := Hd h
 have HD := Hd hd
 have HI := Hd hi
 clear h hd hi hkd
 go_enter Tryz.func50, Tryz.ntmps50
 go_wp2_with fail
 refine (pair_ok H.out _ _ HD.out HI.out).mono ?_
 rintro e w' ⟨rfl, rfl⟩
 go_wp2
 go_ret
 exact ⟨rfl, rfl⟩
theorem enter_noname {w : World} {t bd bn : Nat} {S : Tab} {nd nn : Nd} (h : Rep w t S) (d i : Int) (hd : S d.toNat = some (bd, nd)) (hi : S i.toNat = some (bn, nn)) (s : ByteArray) (hkd : nd.kind = 1) (hs : nameB s = false) :
  Calls Tryz.prog 50 #[.pointer (some ⟨t, 0, none⟩), .int .i64 d, .string s, .int .i64 i] w fun e w' => e = .returned (.int .i64 1) ∧ w = w' := by
 have c1 : w.cell? ⟨bd, 1, none⟩ = some (.int .i64 1) := by rw [h.c1 hd, hkd]
 have HK := Hd hkd
 have H := Hd h
 have HD := Hd hd
 have HI := Hd hi
 clear h hd hi hkd
 go_enter Tryz.func50, Tryz.ntmps50
 go_wp2_with fail
 refine (pair_ok H.out _ _ HD.out HI.out).mono ?_
 rintro e w' ⟨rfl, rfl⟩
 go_wp2_with fail
 refine (name_any _ _).mono ?_
 rintro e w' ⟨rfl, rfl⟩
 go_wp2
 go_ret
 exact ⟨rfl, rfl⟩
theorem enter_is {w : World} {t bd bn : Nat} {S : Tab} {nd nn : Nd} (h : Rep w t S) (d i : Int) (hd : S d.toNat = some (bd, nd)) (hi : S i.toNat = some (bn, nn)) (s : ByteArray) (hkd : nd.kind = 1) (hs : nameB s = true) {x by_ : Nat} {ny : Nd} (hl : look nd.names s = some x) (hy : S x = some (by_, ny)) :
  Calls Tryz.prog 50 #[.pointer (some ⟨t, 0, none⟩), .int .i64 d, .string s, .int .i64 i] w fun e w' => e = .returned (.int .i64 5) ∧ w = w' := by
 have c1 : w.cell? ⟨bd, 1, none⟩ = some (.int .i64 1) := by rw [h.c1 hd, hkd]
 have HK := Hd hkd
 have HL := Hd hl
 have HY := Hd hy
 have H := Hd h
 have HD := Hd hd
 have HI := Hd hi
 clear h hd hi hkd hl hy
 go_enter Tryz.func50, Tryz.ntmps50
 go_wp2_with fail
 refine (pair_ok H.out _ _ HD.out HI.out).mono ?_
 rintro e w' ⟨rfl, rfl⟩
 go_wp2_with fail
 refine (name_any _ _).mono ?_
 rintro e w' ⟨rfl, rfl⟩
 go_wp2_with fail
 refine (entry_some H.out HD.out HK.out _ _ HL.out HY.out).mono ?_
 rintro e w' ⟨rfl, rfl⟩
 go_wp2
 go_ret
 exact ⟨rfl, rfl⟩
theorem enter_root {w : World} {t bd bn : Nat} {S : Tab} {nd nn : Nd} (h : Rep w t S) (d i : Int) (hd : S d.toNat = some (bd, nd)) (hi : S i.toNat = some (bn, nn)) (s : ByteArray) (hkd : nd.kind = 1) (hs : nameB s = true) (hl : look nd.names s = none) (hi1 : i = 1) :
  Calls Tryz.prog 50 #[.pointer (some ⟨t, 0, none⟩), .int .i64 d, .string s, .int .i64 i] w fun e w' => e = .returned (.int .i64 12) ∧ w = w' := by
 have c1 : w.cell? ⟨bd, 1, none⟩ = some (.int .i64 1) := by rw [h.c1 hd, hkd]
 have HK := Hd hkd
 have HL := Hd hl
 have hib : (i == 1) = true := by simpa using hi1
 have H := Hd h
 have HD := Hd hd
 have HI := Hd hi
 clear h hd hi hkd hl hi1
 go_enter Tryz.func50, Tryz.ntmps50
 go_wp2_with fail
 refine (pair_ok H.out _ _ HD.out HI.out).mono ?_
 rintro e w' ⟨rfl, rfl⟩
 go_wp2_with fail
 refine (name_any _ _).mono ?_
 rintro e w' ⟨rfl, rfl⟩
 go_wp2_with fail
 refine (entry_none H.out HD.out HK.out _ HL.out).mono ?_
 rintro e w' ⟨rfl, rfl⟩
 go_wp2
 go_ret
 exact ⟨rfl, rfl⟩
theorem enter_manyd {w : World} {t bd bn : Nat} {S : Tab} {nd nn : Nd} (h : Rep w t S) (d i : Int) (hd : S d.toNat = some (bd, nd)) (hi : S i.toNat = some (bn, nn)) (s : ByteArray) (hkd : nd.kind = 1) (hs : nameB s = true) (hl : look nd.names s = none) (hi1 : i ≠ 1) (hkn : nn.kind = 1) (hlk : 0 < nn.links) :
  Calls Tryz.prog 50 #[.pointer (some ⟨t, 0, none⟩), .int .i64 d, .string s, .int .i64 i] w fun e w' => e = .returned (.int .i64 12) ∧ w = w' := by
 have c1 : w.cell? ⟨bd, 1, none⟩ = some (.int .i64 1) := by rw [h.c1 hd, hkd]
 have HK := Hd hkd
 have HL := Hd hl
 have hib : (i == 1) = false := by simpa using hi1
 have d1 : w.cell? ⟨bn, 1, none⟩ = some (.int .i64 1) := by rw [h.c1 hi, hkn]
 have d5 := h.c5 hi
 have H := Hd h
 have HD := Hd hd
 have HI := Hd hi
 clear h hd hi hkd hl hi1 hkn
 go_enter Tryz.func50, Tryz.ntmps50
 go_wp2_with fail
 refine (pair_ok H.out _ _ HD.out HI.out).mono ?_
 rintro e w' ⟨rfl, rfl⟩
 go_wp2_with fail
 refine (name_any _ _).mono ?_
 rintro e w' ⟨rfl, rfl⟩
 go_wp2_with fail
 refine (entry_none H.out HD.out HK.out _ HL.out).mono ?_
 rintro e w' ⟨rfl, rfl⟩
 go_wp2
 go_ret
 exact ⟨rfl, rfl⟩
theorem enter_manyf {w : World} {t bd bn : Nat} {S : Tab} {nd nn : Nd} (h : Rep w t S) (d i : Int) (hd : S d.toNat = some (bd, nd)) (hi : S i.toNat = some (bn, nn)) (s : ByteArray) (hkd : nd.kind = 1) (hs : nameB s = true) (hl : look nd.names s = none) (hi1 : i ≠ 1) (hkn : ¬ nn.kind = 1) (hlk : 8 ≤ nn.links) :
  Calls Tryz.prog 50 #[.pointer (some ⟨t, 0, none⟩), .int .i64 d, .string s, .int .i64 i] w fun e w' => e = .returned (.int .i64 12) ∧ w = w' := by
 have c1 : w.cell? ⟨bd, 1, none⟩ = some (.int .i64 1) := by rw [h.c1 hd, hkd]
 have HK := Hd hkd
 have HL := Hd hl
 have hib : (i == 1) = false := by simpa using hi1
 have d1 := h.c1 hi
 have d5 := h.c5 hi
 have hkb : (nn.kind == 1) = false := by simpa using hkn
 have H := Hd h
 have HD := Hd hd
 have HI := Hd hi
 clear h hd hi hkd hl hi1 hkn
 go_enter Tryz.func50, Tryz.ntmps50
 go_wp2_with fail
 refine (pair_ok H.out _ _ HD.out HI.out).mono ?_
 rintro e w' ⟨rfl, rfl⟩
 go_wp2_with fail
 refine (name_any _ _).mono ?_
 rintro e w' ⟨rfl, rfl⟩
 go_wp2_with fail
 refine (entry_none H.out HD.out HK.out _ HL.out).mono ?_
 rintro e w' ⟨rfl, rfl⟩
 go_wp2
 go_ret
 exact ⟨rfl, rfl⟩
theorem enter_fulld {w : World} {t bd bn : Nat} {S : Tab} {nd nn : Nd} (h : Rep w t S) (d i : Int) (hd : S d.toNat = some (bd, nd)) (hi : S i.toNat = some (bn, nn)) (s : ByteArray) (hkd : nd.kind = 1) (hs : nameB s = true) (hl : look nd.names s = none) (hi1 : i ≠ 1) (hkn : nn.kind = 1) (hlk : nn.links = 0) (hn : 40 ≤ nd.names.length) :
  Calls Tryz.prog 50 #[.pointer (some ⟨t, 0, none⟩), .int .i64 d, .string s, .int .i64 i] w fun e w' => e = .returned (.int .i64 9) ∧ w = w' := by
 obtain ⟨m, hm⟩ := h.dir_mp hd hkd
 have c10 : w.cell? ⟨bd, 10, none⟩ = some (.map (some m)) := by rw [h.c10 hd, hm]
 have hlen : ∀ ty, (Builtin.len_ #[81] ty #[.map (some m)]).run Tryz.prog w = .ok (.int .i64 nd.names.length) w := fun ty => hm ▸ h.len hd ty
 have c1 : w.cell? ⟨bd, 1, none⟩ = some (.int .i64 1) := by rw [h.c1 hd, hkd]
 have HK := Hd hkd
 have HL := Hd hl
 have hib : (i == 1) = false := by simpa using hi1
 have d1 : w.cell? ⟨bn, 1, none⟩ = some (.int .i64 1) := by rw [h.c1 hi, hkn]
 have d5 : w.cell? ⟨bn, 5, none⟩ = some (.int .i64 0) := by rw [h.c5 hi, hlk]
 have hn1 : 40 ≤ (nd.names.length : Int) := by omega
 have H := Hd h
 have HD := Hd hd
 have HI := Hd hi
 clear h hd hi hkd hl hi1 hkn hlk hm hn
 go_enter Tryz.func50, Tryz.ntmps50
 go_wp2_with fail
 refine (pair_ok H.out _ _ HD.out HI.out).mono ?_
 rintro e w' ⟨rfl, rfl⟩
 go_wp2_with fail
 refine (name_any _ _).mono ?_
 rintro e w' ⟨rfl, rfl⟩
 go_wp2_with fail
 refine (entry_none H.out HD.out HK.out _ HL.out).mono ?_
 rintro e w' ⟨rfl, rfl⟩
 go_wp2
 go_ret
 exact ⟨rfl, rfl⟩
theorem enter_fullf {w : World} {t bd bn : Nat} {S : Tab} {nd nn : Nd} (h : Rep w t S) (d i : Int) (hd : S d.toNat = some (bd, nd)) (hi : S i.toNat = some (bn, nn)) (s : ByteArray) (hkd : nd.kind = 1) (hs : nameB s = true) (hl : look nd.names s = none) (hi1 : i ≠ 1) (hkn : ¬ nn.kind = 1) (hlk : nn.links < 8) (hn : 40 ≤ nd.names.length) :
  Calls Tryz.prog 50 #[.pointer (some ⟨t, 0, none⟩), .int .i64 d, .string s, .int .i64 i] w fun e w' => e = .returned (.int .i64 9) ∧ w = w' := by
 obtain ⟨m, hm⟩ := h.dir_mp hd hkd
 have c10 : w.cell? ⟨bd, 10, none⟩ = some (.map (some m)) := by rw [h.c10 hd, hm]
 have hlen : ∀ ty, (Builtin.len_ #[81] ty #[.map (some m)]).run Tryz.prog w = .ok (.int .i64 nd.names.length) w := fun ty => hm ▸ h.len hd ty
 have c1 : w.cell? ⟨bd, 1, none⟩ = some (.int .i64 1) := by rw [h.c1 hd, hkd]
 have HK := Hd hkd
 have HL := Hd hl
 have hib : (i == 1) = false := by simpa using hi1
 have d1 := h.c1 hi
 have d5 := h.c5 hi
 have hkb : (nn.kind == 1) = false := by simpa using hkn
 have hn1 : 40 ≤ (nd.names.length : Int) := by omega
 have H := Hd h
 have HD := Hd hd
 have HI := Hd hi
 clear h hd hi hkd hl hi1 hkn hm hn
 go_enter Tryz.func50, Tryz.ntmps50
 go_wp2_with fail
 refine (pair_ok H.out _ _ HD.out HI.out).mono ?_
 rintro e w' ⟨rfl, rfl⟩
 go_wp2_with fail
 refine (name_any _ _).mono ?_
 rintro e w' ⟨rfl, rfl⟩
 go_wp2_with fail
 refine (entry_none H.out HD.out HK.out _ HL.out).mono ?_
 rintro e w' ⟨rfl, rfl⟩
 go_wp2
 go_ret
 exact ⟨rfl, rfl⟩
def Nd.gained (n : Nd) (d : Nat) : Nd := { n with links := n.links + 1, parent := if n.kind = 1 then d else n.parent }
theorem Mv.named {w : World} {t b k : Nat} {S : Tab} {n : Nd} (h : Rep w t S) (hk : S k = some (b, n)) {m : Nat} (hm : n.mp = some m) (s : ByteArray) (x : Nat) (hs : look n.names s = none) (hn : n.names.length < 40) :
  ∃ w1, (Instr.mapUpdate 81 (.map (some m)) (.string s) (.int .i64 (x : Int))).run Tryz.prog w = .ok () w1 ∧ Mv w t S w1 (upd S k (some (b, { n with names := n.names ++ [(s, x)] }))) := by
 obtain ⟨es, c, hr, hok⟩ := run_update_new Tryz.underlying81 Tryz.underlying9 (h.map k b n m hk hm) s x hs
 exact ⟨_, hr, (Mv.refl h).setMap hk hm es c _ hok (by simp; omega)⟩
theorem Mv.gainedFile {w : World} {t b k : Nat} {S : Tab} {n : Nd} (h : Rep w t S) (hk : S k = some (b, n)) (hkd : n.kind ≠ 1) (d : Nat) :
  Mv w t S (w.setCell ⟨b, 5, none⟩ (.int .i64 (n.links + 1))) (upd S k (some (b, n.gained d))) :=
 (Mv.refl h).setNode hk 5 (.int .i64 (n.links + 1)) (n.gained d) (by simp [Nd.gained, Nd.cells, hkd]) rfl rfl rfl rfl (h.small k b n hk).1
theorem Mv.gainedDir {w : World} {t b k : Nat} {S : Tab} {n : Nd} (h : Rep w t S) (hk : S k = some (b, n)) (hkd : n.kind = 1) (d : Nat) :
  Mv w t S ((w.setCell ⟨b, 5, none⟩ (.int .i64 (n.links + 1))).setCell ⟨b, 11, none⟩ (.int .i64 (d : Int))) (upd S k (some (b, n.gained d))) := by
 have hsm := (h.small k b n hk).1
 have h1 := (Mv.refl h).setNode hk 5 (.int .i64 (n.links + 1)) { n with links := n.links + 1 } rfl rfl rfl rfl rfl hsm
 have h2 := h1.setNode (uY ..) 11 (.int .i64 (d : Int)) (n.gained d) (by simp [Nd.gained, Nd.cells, hkd]) rfl rfl rfl rfl hsm
 rw [upd_upd] at h2
 exact h2
def entered (S : Tab) (d i : Nat) (bd : Nat) (nd : Nd) (bn : Nat) (nn : Nd) (s : ByteArray) : Tab :=
 upd (upd S d (some (bd, { nd with names := nd.names ++ [(s, i)] }))) i (some (bn, nn.gained d))
theorem enter_file {w : World} {t bd bn : Nat} {S : Tab} {nd nn : Nd} (h : Rep w t S) (d i : Int) (hd : S d.toNat = some (bd, nd)) (hi : S i.toNat = some (bn, nn)) (hkd : nd.kind = 1) (hkn : nn.kind ≠ 1) (s : ByteArray)
  (hs : nameB s = true) (hl : look nd.names s = none) (hi1 : i ≠ 1) (hlk : 0 ≤ nn.links ∧ nn.links < 8) (hn : nd.names.length < 40) :
  Calls Tryz.prog 50 #[.pointer (some ⟨t, 0, none⟩), .int .i64 d, .string s, .int .i64 i] w fun e w' => e = .returned (.int .i64 0) ∧ Mv w t S w' (entered S d.toNat i.toNat bd nd bn nn s) := by
 obtain ⟨m, hm⟩ := h.dir_mp hd hkd
 have hdi : i.toNat ≠ d.toNat := fun e => by rw [e, hd] at hi; cases hi; exact hkn hkd
 have hdp : ((d.toNat : Nat) : Int) = d := by have := h.rng _ _ hd; omega
 have hip : ((i.toNat : Nat) : Int) = i := by have := h.rng _ _ hi; omega
 obtain ⟨w1, hrun, hmv⟩ := Mv.named h hd hm s i.toNat hl hn
 rw [hip] at hrun
 have hi' : upd S d.toNat (some (bd, { nd with names := nd.names ++ [(s, i.toNat)] })) i.toNat = some (bn, nn) := by rw [uX _ _ hdi]; exact hi
 have c1 : w.cell? ⟨bd, 1, none⟩ = some (.int .i64 1) := by rw [h.c1 hd, hkd]
 have c10 : w.cell? ⟨bd, 10, none⟩ = some (.map (some m)) := by rw [h.c10 hd, hm]
 have d1 := h.c1 hi
 have d5 := h.c5 hi
 have e1 := hmv.rep.c1 hi'
 have e5 := hmv.rep.c5 hi'
 have g5 := hmv.rep.frozenN hi' 5
 have hlen : ∀ ty, (Builtin.len_ #[81] ty #[.map (some m)]).run Tryz.prog w = .ok (.int .i64 nd.names.length) w := fun ty => hm ▸ h.len hd ty
 have hkb : (nn.kind == 1) = false := by simpa using hkn
 have hib : (i == 1) = false := by simpa using hi1
 have hn1 : (nd.names.length : Int) < 40 := by omega
 obtain ⟨hlk1, hlk2⟩ := hlk
 have H := Hd h
 have HD := Hd hd
 have HI := Hd hi
 have HL := Hd hl
 have HM := Hd hmv
 have HI' := Hd hi'
 have HK := Hd hkd
 have HN := Hd hkn
 clear h hd hi hl hmv hi' hkd hkn hi1 hm hdi hn hdp hip
 go_enter Tryz.func50, Tryz.ntmps50
 go_wp2_with fail
 refine (pair_ok H.out _ _ HD.out HI.out).mono ?_
 rintro e w' ⟨rfl, rfl⟩
 go_wp2_with fail
 refine (name_any _ _).mono ?_
 rintro e w' ⟨rfl, rfl⟩
 go_wp2_with fail
 refine (entry_none H.out HD.out HK.out _ HL.out).mono ?_
 rintro e w' ⟨rfl, rfl⟩
 go_wp2
 go_ret
 exact ⟨rfl, HM.out.trans (Mv.gainedFile HM.out.rep HI'.out HN.out d.toNat)⟩
theorem enter_dir {w : World} {t bd bn : Nat} {S : Tab} {T : IT.Tr} {nd nn : Nd} {q : IT.Nd} (h : Tre w t S T) (d i : Int) (hd : S d.toNat = some (bd, nd)) (hq : T d.toNat = some q) (hi : S i.toNat = some (bn, nn)) (hkd : nd.kind = 1) (hkn : nn.kind = 1) (s : ByteArray)
  (hs : nameB s = true) (hl : look nd.names s = none) (hi1 : i ≠ 1) (hlk : nn.links = 0) (hn : nd.names.length < 40) :
  Calls Tryz.prog 50 #[.pointer (some ⟨t, 0, none⟩), .int .i64 d, .string s, .int .i64 i] w fun e w' => (IT.Bel T i.toNat d.toNat ∧ e = .returned (.int .i64 8) ∧ Below w.heap.size w w') ∨ (¬ IT.Bel T i.toNat d.toNat ∧ e = .returned (.int .i64 0) ∧ Mv w t S w' (entered S d.toNat i.toNat bd nd bn nn s)) := by
 obtain ⟨m, hm⟩ := h.rep.dir_mp hd hkd
 have hqk : q.kind = 1 := by rw [← (h.ties.kept (kpOf_some hd) hq).kind]; exact hkd
 have hwi := within_any h hd hi hq hqk
 have c1 : w.cell? ⟨bd, 1, none⟩ = some (.int .i64 1) := by rw [h.rep.c1 hd, hkd]
 have c10 : w.cell? ⟨bd, 10, none⟩ = some (.map (some m)) := by rw [h.rep.c10 hd, hm]
 have d1 : w.cell? ⟨bn, 1, none⟩ = some (.int .i64 1) := by rw [h.rep.c1 hi, hkn]
 have d5 : w.cell? ⟨bn, 5, none⟩ = some (.int .i64 0) := by rw [h.rep.c5 hi, hlk]
 have hlen : ∀ ty, (Builtin.len_ #[81] ty #[.map (some m)]).run Tryz.prog w = .ok (.int .i64 nd.names.length) w := fun ty => hm ▸ h.rep.len hd ty
 have hib : (i == 1) = false := by simpa using hi1
 have hn1 : (nd.names.length : Int) < 40 := by omega
 have H := Hd h.rep
 have HD := Hd hd
 have HI := Hd hi
 have HL := Hd hl
 have HK := Hd hkd
 have HN := Hd hkn
 have HM := Hd hm
 have HO := Hd hlk
 have HQ := Hd hn
 have HW := Hd hwi
 have HDP : Hid (((d.toNat : Nat) : Int) = d) := Hd (by have := h.rep.rng _ _ hd; omega)
 have HIP : Hid (((i.toNat : Nat) : Int) = i) := Hd (by have := h.rep.rng _ _ hi; omega)
 have HX : Hid (∀ b1 : Nat, i.toNat = d.toNat → IT.Bel T i.toNat d.toNat) := Hd (fun _ e => e ▸ .self)
 clear h hd hi hl hkd hkn hi1 hm hn hlk hq hqk hwi
 go_enter Tryz.func50, Tryz.ntmps50
 go_wp2_with fail
 refine (pair_ok H.out _ _ HD.out HI.out).mono ?_
 rintro e w' ⟨rfl, rfl⟩
 go_wp2_with fail
 refine (name_any _ _).mono ?_
 rintro e w' ⟨rfl, rfl⟩
 go_wp2_with fail
 refine (entry_none H.out HD.out HK.out _ HL.out).mono ?_
 rintro e w' ⟨rfl, rfl⟩
 go_wp2_with fail
 refine HW.out.mono ?_
 rintro e w' ⟨r, rfl, hr, hb⟩
 have HB := Hd hb
 clear HW
 cases r with
 | true =>
   have HR := Hd (hr.1 rfl)
   clear hr hb c1 c10 d1 d5
   go_wp2
   go_ret
   exact .inl ⟨HR.out, rfl, HB.out⟩
 | false =>
   have HR : Hid (¬ IT.Bel T i.toNat d.toNat) := Hd (fun hh => by cases hr.2 hh)
   have hdi : i.toNat ≠ d.toNat := fun e => HR.out (HX.out 0 e)
   have hmb := (Mv.refl H.out).below hb
   have h := hmb.rep
   obtain ⟨w1, hrun, hmv⟩ := Mv.named h HD.out HM.out s i.toNat HL.out HQ.out
   rw [HIP.out] at hrun
   have HI' : Hid (upd S d.toNat (some (bd, { nd with names := nd.names ++ [(s, i.toNat)] })) i.toNat = some (bn, nn)) := Hd (by rw [uX _ _ hdi]; exact HI.out)
   have r1 : w'.cell? ⟨bd, 1, none⟩ = some (.int .i64 1) := by rw [h.c1 HD.out, HK.out]
   have r10 : w'.cell? ⟨bd, 10, none⟩ = some (.map (some m)) := by rw [h.c10 HD.out, HM.out]
   have e1 : w1.cell? ⟨bn, 1, none⟩ = some (.int .i64 1) := by rw [hmv.rep.c1 HI'.out, HN.out]
   have e5 : w1.cell? ⟨bn, 5, none⟩ = some (.int .i64 0) := by rw [hmv.rep.c5 HI'.out, HO.out]
   have e11 := hmv.rep.c11 HI'.out
   have g5 := hmv.rep.frozenN HI'.out 5
   have g11 := hmv.rep.frozenN HI'.out 11
   have HV := Hd (hmb.trans hmv)
   have HR2 := Hd hmv
   clear hmb h hmv hb c1 c10 d1 d5 hr hdi
   go_wp2
   go_ret
   have h2 := HV.out.trans (Mv.gainedDir HR2.out.rep HI'.out HN.out d.toNat)
   rw [HO.out, HDP.out] at h2
   exact .inr ⟨HR.out, rfl, h2⟩
theorem kp_gained (n : Nd) (d : Nat) : kp (n.gained d) = { kp n with links := (kp n).links + 1, parent := if (kp n).kind = 1 then d else (kp n).parent } := rfl
open Classical in
theorem enter_any {w : World} {t : Nat} {S : Tab} {T : IT.Tr} (h : Tre w t S T) (d i : Int) (s : ByteArray) :
  Calls Tryz.prog 50 #[.pointer (some ⟨t, 0, none⟩), .int .i64 d, .string s, .int .i64 i] w fun e w' => ∃ r, e = .returned (.int .i64 r) ∧ Stp w t S (fun T' => IT.isEnter okN T d.toNat (bs s) i.toNat r T') w' := by
 have hstay : ∀ {r : Int} {e : Ending} {w' : World}, IT.isEnter okN T d.toNat (bs s) i.toNat r T → e = .returned (.int .i64 r) ∧ w = w' → ∃ r, e = .returned (.int .i64 r) ∧ Stp w t S (fun T' => IT.isEnter okN T d.toNat (bs s) i.toNat r T') w' := by
  rintro r e w' hr ⟨rfl, rfl⟩
  exact ⟨r, rfl, Stp.keep h hr⟩
 cases hd : S d.toNat with
 | none =>
   refine (enter_no h.rep d i s (.inl hd)).mono fun e w' => hstay ?_
   unfold IT.isEnter; rw [(h.none_iff _).1 hd]; exact ⟨rfl, rfl⟩
 | some p1 =>
   obtain ⟨bd, nd⟩ := p1
   obtain ⟨n, hT, hkp⟩ := h.get hd
   cases hi : S i.toNat with
   | none =>
     refine (enter_no h.rep d i s (.inr hi)).mono fun e w' => hstay ?_
     unfold IT.isEnter; rw [hT, (h.none_iff _).1 hi]; exact ⟨rfl, rfl⟩
   | some p2 =>
     obtain ⟨bn, nn⟩ := p2
     obtain ⟨m, hX, hkx⟩ := h.get hi
     have hkd : nd.kind = n.kind := hkp.kind
     have hkn : nn.kind = m.kind := hkx.kind
     have hlk : nn.links = (IT.lnk T i.toNat : Int) := hkx.links
     have hlen : nd.names.length = n.names.length := by
      have e8 : (ents nd.names).Perm n.names := hkp.names
      rw [← e8.length_eq]; simp [ents]
     have hri := h.rep.rng _ _ hi
     have hrd := h.rep.rng _ _ hd
     have hi1 : i.toNat = 1 ↔ i = 1 := by omega
     unfold IT.isEnter
     rw [hT, hX]
     dsimp only
     by_cases h1 : n.kind = 1
     · by_cases h2 : nameB s = true
       · have hok : okN (bs s) = true := by rw [← nameB_ok]; exact h2
         have hlo := h.look hd hT s
         cases hl : look nd.names s with
         | some x =>
           obtain ⟨mx, hmx⟩ := h.snd.1.lead _ n (bs s, x) hT (IT.find_mem (hlo ▸ hl))
           obtain ⟨bx, nx, hSx, _⟩ := h.back hmx
           refine (enter_is h.rep d i hd hi s (hkd.trans h1) h2 hl hSx).mono ?_
           rintro e w' ⟨rfl, rfl⟩
           refine ⟨5, rfl, Stp.keep h ?_⟩
           rw [if_neg (fun hh => hh h1), if_neg (by rw [hok]; intro e; cases e), if_pos (by rw [← hlo, hl]; intro e; cases e)]
           exact ⟨rfl, rfl⟩
         | none =>
           have hfn : IT.findN (bs s) n.names = none := by rw [← hlo]; exact hl
           have hpre : ∀ {r : Int} {T' : IT.Tr}, (if i.toNat = 1 ∨ (m.kind = 1 ∧ IT.lnk T i.toNat > 0) ∨ IT.lnk T i.toNat ≥ 8 then r = 12 ∧ T' = T
             else if n.names.length ≥ 40 then r = 9 ∧ T' = T else if m.kind = 1 ∧ IT.Bel T i.toNat d.toNat then r = 8 ∧ T' = T else r = 0 ∧ T' = IT.entT T d.toNat i.toNat (bs s) n m) →
             (if ¬n.kind = 1 then r = 6 ∧ T' = T else if okN (bs s) = false then r = 1 ∧ T' = T else if IT.findN (bs s) n.names ≠ none then r = 5 ∧ T' = T
             else if i.toNat = 1 ∨ (m.kind = 1 ∧ IT.lnk T i.toNat > 0) ∨ IT.lnk T i.toNat ≥ 8 then r = 12 ∧ T' = T
             else if n.names.length ≥ 40 then r = 9 ∧ T' = T else if m.kind = 1 ∧ IT.Bel T i.toNat d.toNat then r = 8 ∧ T' = T else r = 0 ∧ T' = IT.entT T d.toNat i.toNat (bs s) n m) := by
            intro r T' hh
            rw [if_neg (fun hh => hh h1), if_neg (by rw [hok]; intro e; cases e), if_neg (fun hh => hh hfn)]
            exact hh
           have hkd1 := hkd.trans h1
           by_cases h3 : i = 1
           · refine (enter_root h.rep d i hd hi s hkd1 h2 hl h3).mono ?_
             rintro e w' ⟨rfl, rfl⟩
             refine ⟨12, rfl, Stp.keep h (hpre ?_)⟩
             rw [if_pos (.inl (hi1.2 h3))]; exact ⟨rfl, rfl⟩
           · by_cases h4 : m.kind = 1
             · by_cases h5 : IT.lnk T i.toNat > 0
               · refine (enter_manyd h.rep d i hd hi s hkd1 h2 hl h3 (hkn.trans h4) (by omega)).mono ?_
                 rintro e w' ⟨rfl, rfl⟩
                 refine ⟨12, rfl, Stp.keep h (hpre ?_)⟩
                 rw [if_pos (.inr (.inl ⟨h4, h5⟩))]; exact ⟨rfl, rfl⟩
               · have n5 : ¬ (i.toNat = 1 ∨ (m.kind = 1 ∧ IT.lnk T i.toNat > 0) ∨ IT.lnk T i.toNat ≥ 8) := by
                  rintro (a | a | a)
                  · exact h3 (hi1.1 a)
                  · exact h5 a.2
                  · omega
                 by_cases h6 : n.names.length ≥ 40
                 · refine (enter_fulld h.rep d i hd hi s hkd1 h2 hl h3 (hkn.trans h4) (by omega) (by omega)).mono ?_
                   rintro e w' ⟨rfl, rfl⟩
                   refine ⟨9, rfl, Stp.keep h (hpre ?_)⟩
                   rw [if_neg n5, if_pos h6]; exact ⟨rfl, rfl⟩
                 · refine (enter_dir h d i hd hT hi hkd1 (hkn.trans h4) s h2 hl h3 (by omega) (by omega)).mono ?_
                   rintro e w' (⟨hbel, rfl, hb⟩ | ⟨hbel, rfl, hmv⟩)
                   · refine ⟨8, rfl, Stp.keepB h hb (hpre ?_)⟩
                     rw [if_neg n5, if_neg h6, if_pos ⟨h4, hbel⟩]; exact ⟨rfl, rfl⟩
                   · have hne : i.toNat ≠ d.toNat := fun e => hbel (e ▸ .self)
                     refine ⟨0, rfl, _, IT.entT T d.toNat i.toNat (bs s) n m, hmv, ?_, hpre ?_⟩
                     · unfold entered
                       rw [kpOf_upd, kpOf_upd, kp_gained, IT.updK_comm _ (Ne.symm hne)]
                       exact h.ties.ent hT hX hne hrd.2 hri.2 (kpOf_some hd) (kpOf_some hi) (ents (nd.names ++ [(s, i.toNat)])) (by
                        show (ents (nd.names ++ [(s, i.toNat)])).Perm ((bs s, i.toNat) :: ents nd.names)
                        unfold ents
                        rw [List.map_append]
                        exact List.perm_append_comm)
                     · rw [if_neg n5, if_neg h6, if_neg (fun hh => hbel hh.2)]; exact ⟨rfl, rfl⟩
             · by_cases h5 : IT.lnk T i.toNat ≥ 8
               · refine (enter_manyf h.rep d i hd hi s hkd1 h2 hl h3 (by rw [hkn]; exact h4) (by omega)).mono ?_
                 rintro e w' ⟨rfl, rfl⟩
                 refine ⟨12, rfl, Stp.keep h (hpre ?_)⟩
                 rw [if_pos (.inr (.inr h5))]; exact ⟨rfl, rfl⟩
               · have n5 : ¬ (i.toNat = 1 ∨ (m.kind = 1 ∧ IT.lnk T i.toNat > 0) ∨ IT.lnk T i.toNat ≥ 8) := by
                  rintro (a | a | a)
                  · exact h3 (hi1.1 a)
                  · exact h4 a.1
                  · exact h5 a
                 by_cases h6 : n.names.length ≥ 40
                 · refine (enter_fullf h.rep d i hd hi s hkd1 h2 hl h3 (by rw [hkn]; exact h4) (by omega) (by omega)).mono ?_
                   rintro e w' ⟨rfl, rfl⟩
                   refine ⟨9, rfl, Stp.keep h (hpre ?_)⟩
                   rw [if_neg n5, if_pos h6]; exact ⟨rfl, rfl⟩
                 · refine (enter_file h.rep d i hd hi hkd1 (by rw [hkn]; exact h4) s h2 hl h3 ⟨by omega, by omega⟩ (by omega)).mono ?_
                   rintro e w' ⟨rfl, hmv⟩
                   have hne : i.toNat ≠ d.toNat := fun e => by
                    rw [e, hT] at hX; obtain rfl := oI hX
                    exact h4 h1
                   refine ⟨0, rfl, _, IT.entT T d.toNat i.toNat (bs s) n m, hmv, ?_, hpre ?_⟩
                   · unfold entered
                     rw [kpOf_upd, kpOf_upd, kp_gained, IT.updK_comm _ (Ne.symm hne)]
                     exact h.ties.ent hT hX hne hrd.2 hri.2 (kpOf_some hd) (kpOf_some hi) (ents (nd.names ++ [(s, i.toNat)])) (by
                      show (ents (nd.names ++ [(s, i.toNat)])).Perm ((bs s, i.toNat) :: ents nd.names)
                      unfold ents
                      rw [List.map_append]
                      exact List.perm_append_comm)
                   · rw [if_neg n5, if_neg h6, if_neg (fun hh => h4 hh.1)]; exact ⟨rfl, rfl⟩
       · have h2 : nameB s = false := by simpa using h2
         refine (enter_noname h.rep d i hd hi s (hkd.trans h1) h2).mono ?_
         rintro e w' ⟨rfl, rfl⟩
         refine ⟨1, rfl, Stp.keep h ?_⟩
         rw [if_neg (fun hh => hh h1), if_pos (by rw [← nameB_ok]; exact h2)]; exact ⟨rfl, rfl⟩
     · refine (enter_nodir h.rep d i hd hi s (by rw [hkd]; exact h1)).mono ?_
       rintro e w' ⟨rfl, rfl⟩
       refine ⟨6, rfl, Stp.keep h ?_⟩
       rw [if_pos h1]; exact ⟨rfl, rfl⟩
end Go.Proofs.YtafonmnfeibaiaaGreat
namespace Go.Proofs.YtafonmnfeibaiaaGreat
open Go.RowKit
section
variable {P : Program} {T K : TypeId} {E : TypeId} {es : Array MapEntry} {c : Nat} {l : List (ByteArray × Nat)}
theorem delete_all (hT : P.underlying T = some (.map K E)) (hK : P.underlying K = some .string) (h2 : MapOk es c l) (s : ByteArray) (x : Nat) (hs : look l s = some x) (m : Nat) :
  ∃ es', MapOk es' c (delL l s) ∧ ∀ (w : World) (ty : TypeId), w.heap[m]? = some (.map es c) → (Builtin.delete_ #[T, K] ty #[.map (some m), .string s]).run P w = .ok (.tuple #[]) (w.putObj m (.map es' c)) := by
 obtain ⟨j, hf, hj, hd, _⟩ := findNow_some_of s x es.toList l 0 h2.vals hs
 have hes : (es.eraseIdxIfInBounds j).toList = es.toList.eraseIdx j := by
  have : j < es.size := by simpa using hj
  simp [Array.eraseIdxIfInBounds, this]
 refine ⟨es.eraseIdxIfInBounds j, ⟨?_, ?_, ?_, ?_⟩, fun w ty h1 => ?_⟩
 · rw [hes, ← hd]
   have := h2.vals
   simp only [entVals] at this ⊢
   rw [map_eraseIdx', map_eraseIdx', this]
 · rw [← hd]
   exact List.Nodup.sublist ((List.eraseIdx_sublist l j).map _) h2.keys
 · intro e he
   rw [hes] at he
   exact h2.born e ((List.eraseIdx_sublist _ j).subset he)
 · rw [hes]
   exact List.Nodup.sublist ((List.eraseIdx_sublist _ j).map _) h2.apart
 · simp [Builtin.delete_, run_underlying hT, MapKept.run_getObj_map h1, check_string hK, Instr.findKey, run_underlying hK, hf, Result.andThen, MapKept.run_setObj_map _ h1, World.putObj]
theorem update_all (hT : P.underlying T = some (.map K E)) (hK : P.underlying K = some .string) (h2 : MapOk es c l) (s : ByteArray) (x : Nat) (m : Nat) :
  ∃ es' c' l', MapOk es' c' l' ∧ l'.Perm ((s, x) :: delL l s) ∧ ∀ (w : World), w.heap[m]? = some (.map es c) → (Instr.mapUpdate T (.map (some m)) (.string s) (.int .i64 (x : Int))).run P w = .ok () (w.putObj m (.map es' c')) := by
 cases hs : look l s with
 | none =>
   have hf := findNow_nil_of s es.toList l 0 h2.vals hs
   have hdl : delL l s = l := by
    simp only [look, Option.map_eq_none_iff, List.find?_eq_none] at hs
    exact List.eraseP_of_forall_not (fun p hp => by simpa using hs p hp)
   refine ⟨es.push ⟨.string s, .int .i64 (x : Int), c⟩, c + 1, l ++ [(s, x)], ⟨?_, ?_, ?_, ?_⟩, by rw [hdl]; exact List.perm_append_comm, fun w h1 => ?_⟩
   · simp [entVals, h2.vals]
   · rw [List.map_append, List.nodup_append]
     refine ⟨h2.keys, by simp, ?_⟩
     intro a ha b hb
     simp at hb
     subst hb
     intro e
     obtain ⟨p, hp, hp2⟩ := List.mem_map.1 ha
     simp only [look, Option.map_eq_none_iff, List.find?_eq_none] at hs
     exact hs p hp (by rw [hp2, e]; simp)
   · intro e he
     simp at he
     rcases he with he | rfl
     · have := h2.born e (by simpa using he); omega
     · simp
   · simp only [Array.toList_push, List.map_append, List.map_cons, List.map_nil]
     rw [List.nodup_append]
     refine ⟨h2.apart, by simp, ?_⟩
     intro a ha b hb
     simp at hb
     obtain ⟨p, hp, hp2⟩ := List.mem_map.1 ha
     have := h2.born p hp
     omega
   · simp [Instr.mapUpdate, run_underlying hT, MapKept.run_getObj_map h1, check_string hK, Instr.findKey, run_underlying hK, hf, Result.andThen, MapKept.run_setObj_map _ h1, World.putObj]
 | some y =>
   obtain ⟨j, hf, hj, hd, hkj⟩ := findNow_some_of s y es.toList l 0 h2.vals hs
   have hjs : j < es.size := by simpa using hj
   have hlen : l.length = es.size := by have := congrArg List.length h2.vals; simpa [entVals] using this.symm
   have hjl : j < l.length := by omega
   have hkey : es[j].key = .string s := by
    have e1 := congrArg (fun L => L[j]?) h2.vals
    simp only [entVals, List.getElem?_map] at e1
    have e2 : l[j]? = some l[j] := List.getElem?_eq_getElem hjl
    have e3 : es.toList[j]? = some es[j] := by rw [List.getElem?_eq_getElem hj]; rfl
    rw [e2, e3] at e1
    rw [e2] at hkj
    simp only [Option.map_some, Option.some.injEq, Prod.mk.injEq] at e1 hkj
    rw [e1.1, hkj]
   have hst : ∀ w, (Instr.keyThatStays (((es[j]?).map (·.key)).getD (.string s)) (.string s)).run P w = .ok (.string s) w := fun w => by
    rw [Array.getElem?_eq_getElem hjs]
    simp only [Option.map_some, Option.getD_some, hkey]
    simp [Instr.keyThatStays, Instr.sameBits, ba_beq]
   refine ⟨es.modify j fun e => { e with key := .string s, val := .int .i64 (x : Int) }, c, l.set j (s, x), ⟨?_, ?_, ?_, ?_⟩, ?_, fun w h1 => ?_⟩
   · apply List.ext_getElem?
     intro i
     have e1 := congrArg (fun L => L[i]?) h2.vals
     simp only [entVals, List.getElem?_map, Array.toList_modify, List.getElem?_modify, List.getElem?_set] at e1 ⊢
     by_cases hi : j = i
     · subst hi
       have e3 : es.toList[j]? = some es[j] := by rw [List.getElem?_eq_getElem hj]; rfl
       simp [e3, hjl]
     · simp only [hi, if_false]
       rw [← e1]
       cases es.toList[i]? <;> simp
   · have : (l.set j (s, x)).map (·.1) = l.map (·.1) := by
      apply List.ext_getElem?
      intro i
      simp only [List.getElem?_map, List.getElem?_set]
      by_cases hi : j = i
      · subst hi
        simp only [if_pos, hjl]
        exact hkj.symm
      · simp [hi]
     rw [this]; exact h2.keys
   · intro e he
     rw [Array.toList_modify] at he
     obtain ⟨i, hi, rfl⟩ := List.getElem_of_mem he
     rw [List.getElem_modify]
     have hi2 : i < es.toList.length := by simpa using hi
     by_cases e : j = i
     · rw [if_pos e]; exact (show es.toList[i].born < c from h2.born _ (List.getElem_mem hi2))
     · rw [if_neg e]; exact h2.born _ (List.getElem_mem hi2)
   · have : (es.modify j fun e => { e with key := .string s, val := .int .i64 (x : Int) }).toList.map (·.born) = es.toList.map (·.born) := by
      apply List.ext_getElem?
      intro i
      simp only [List.getElem?_map, Array.toList_modify, List.getElem?_modify]
      by_cases hi : j = i
      · subst hi; cases es.toList[j]? <;> simp
      · simp [hi]
     rw [this]; exact h2.apart
   · rw [← hd]; exact set_perm _ l j hjl
   · simp [Instr.mapUpdate, run_underlying hT, MapKept.run_getObj_map h1, check_string hK, Instr.findKey, run_underlying hK, hf, Result.andThen, hst, MapKept.run_setObj_map _ h1, World.putObj]
end
theorem rm_dir {w : World} {t bd : Nat} {S : Tab} {nd : Nd} (h : Rep w t S) (d : Int) (hd : S d.toNat = some (bd, nd)) (s : ByteArray) (hkd : ¬ nd.kind = 1) :
  Calls Tryz.prog 45 #[.pointer (some ⟨t, 0, none⟩), .int .i64 d, .string s] w fun e w' => e = .returned (.int .i64 6) ∧ w = w' := by
 have c1 := h.c1 hd
 have hkb : (nd.kind != 1) = true := by simpa using hkd
 have H := Hd h
 have HD := Hd hd
 clear h hd hkd
 go_enter Tryz.func45, Tryz.ntmps45
 go_wp2_with fail
 refine (H.out.at_some _ HD.out).mono ?_
 rintro e w' ⟨rfl, rfl⟩
 go_wp2
 go_ret
 exact ⟨rfl, rfl⟩
theorem rm_none {w : World} {t : Nat} {S : Tab} (h : Rep w t S) (d : Int) (hd : S d.toNat = none) (s : ByteArray) :
  Calls Tryz.prog 45 #[.pointer (some ⟨t, 0, none⟩), .int .i64 d, .string s] w fun e w' => e = .returned (.int .i64 3) ∧ w = w' := by
 have H := Hd h
 have HD := Hd hd
 clear h hd
 go_enter Tryz.func45, Tryz.ntmps45
 go_wp2_with fail
 refine (H.out.at_none _ HD.out).mono ?_
 rintro e w' ⟨rfl, rfl⟩
 go_wp2
 go_ret
 exact ⟨rfl, rfl⟩
theorem rm_noent {w : World} {t bd : Nat} {S : Tab} {nd : Nd} (h : Rep w t S) (d : Int) (hd : S d.toNat = some (bd, nd)) (s : ByteArray) (hkd : nd.kind = 1) (hl : look nd.names s = none) :
  Calls Tryz.prog 45 #[.pointer (some ⟨t, 0, none⟩), .int .i64 d, .string s] w fun e w' => e = .returned (.int .i64 3) ∧ w = w' := by
 have c1 : w.cell? ⟨bd, 1, none⟩ = some (.int .i64 1) := by rw [h.c1 hd, hkd]
 have H := Hd h
 have HD := Hd hd
 have HK := Hd hkd
 have HL := Hd hl
 clear h hd hkd hl
 go_enter Tryz.func45, Tryz.ntmps45
 go_wp2_with fail
 refine (H.out.at_some _ HD.out).mono ?_
 rintro e w' ⟨rfl, rfl⟩
 go_wp2_with fail
 refine (entry_none H.out HD.out HK.out _ HL.out).mono ?_
 rintro e w' ⟨rfl, rfl⟩
 go_wp2
 go_ret
 exact ⟨rfl, rfl⟩
theorem rm_busy {w : World} {t bd bx : Nat} {S : Tab} {nd nx : Nd} (h : Rep w t S) (d : Int) (hd : S d.toNat = some (bd, nd)) (s : ByteArray) (hkd : nd.kind = 1) {x : Nat} (hl : look nd.names s = some x) (hx : S x = some (bx, nx)) (hn : 0 < nx.names.length) :
  Calls Tryz.prog 45 #[.pointer (some ⟨t, 0, none⟩), .int .i64 d, .string s] w fun e w' => e = .returned (.int .i64 8) ∧ w = w' := by
 have c1 : w.cell? ⟨bd, 1, none⟩ = some (.int .i64 1) := by rw [h.c1 hd, hkd]
 have d10 := h.c10 hx
 have hlen : ∀ ty, (Builtin.len_ #[81] ty #[.map nx.mp]).run Tryz.prog w = .ok (.int .i64 nx.names.length) w := fun ty => h.len hx ty
 have hn1 : 0 < (nx.names.length : Int) := by omega
 have H := Hd h
 have HD := Hd hd
 have HK := Hd hkd
 have HL := Hd hl
 have HX := Hd hx
 clear h hd hkd hl hx hn
 go_enter Tryz.func45, Tryz.ntmps45
 go_wp2_with fail
 refine (H.out.at_some _ HD.out).mono ?_
 rintro e w' ⟨rfl, rfl⟩
 go_wp2_with fail
 refine (entry_some H.out HD.out HK.out _ _ HL.out HX.out).mono ?_
 rintro e w' ⟨rfl, rfl⟩
 go_wp2
 go_ret
 exact ⟨rfl, rfl⟩
theorem rm_ok {w : World} {t bd bx : Nat} {S : Tab} {nd nx : Nd} (h : Rep w t S) (d : Int) (hd : S d.toNat = some (bd, nd)) (s : ByteArray) (hkd : nd.kind = 1) {x : Nat} (hl : look nd.names s = some x) (hx : S x = some (bx, nx)) (hn : nx.names = []) {Q : World → Prop}
  (hlo : ∀ w1, Mv w t S w1 (upd S d.toNat (some (bd, { nd with names := delL nd.names s }))) → Calls Tryz.prog 81 #[.pointer (some ⟨t, 0, none⟩), .pointer (some ⟨bx, 0, none⟩)] w1 fun e w' => e = .returned (.tuple #[]) ∧ Q w') :
  Calls Tryz.prog 45 #[.pointer (some ⟨t, 0, none⟩), .int .i64 d, .string s] w fun e w' => e = .returned (.int .i64 0) ∧ Q w' := by
 have c1 : w.cell? ⟨bd, 1, none⟩ = some (.int .i64 1) := by rw [h.c1 hd, hkd]
 obtain ⟨m, hm⟩ := h.dir_mp hd hkd
 have c10 : w.cell? ⟨bd, 10, none⟩ = some (.map (some m)) := by rw [h.c10 hd, hm]
 have d10 := h.c10 hx
 have hlen : ∀ ty, (Builtin.len_ #[81] ty #[.map nx.mp]).run Tryz.prog w = .ok (.int .i64 0) w := fun ty => by have := h.len hx ty; rw [hn] at this; exact this
 obtain ⟨es, c, hm1, hmo⟩ := h.map _ bd nd m hd hm
 obtain ⟨es', hmo', hrun⟩ := delete_all Tryz.underlying81 Tryz.underlying9 hmo s x hl m
 have hrun1 := fun ty => hrun w ty hm1
 have hsz := (h.small _ bd nd hd).2
 have hmv : Mv w t S (w.putObj m (.map es' c)) (upd S d.toNat (some (bd, { nd with names := delL nd.names s }))) := (Mv.refl h).setMap hd hm es' c _ hmo' (by
  have h2 : (delL nd.names s).length ≤ nd.names.length := List.length_eraseP_le
  omega)
 have HLO := Hd (hlo _ hmv)
 have H := Hd h
 have HD := Hd hd
 have HK := Hd hkd
 have HL := Hd hl
 have HX := Hd hx
 clear h hd hkd hl hx hn hlo hm hm1 hmo hmo' hrun hsz hmv
 go_enter Tryz.func45, Tryz.ntmps45
 go_wp2_with fail
 refine (H.out.at_some _ HD.out).mono ?_
 rintro e w' ⟨rfl, rfl⟩
 go_wp2_with fail
 refine (entry_some H.out HD.out HK.out _ _ HL.out HX.out).mono ?_
 rintro e w' ⟨rfl, rfl⟩
 go_wp2_with fail
 refine HLO.out.mono ?_
 rintro e w' ⟨rfl, hq⟩
 have HQ := Hd hq
 clear hq
 go_wp2
 go_ret
 exact ⟨rfl, HQ.out⟩
theorem names_nil {n : Nd} {m : IT.Nd} (h : (ents n.names).Perm m.names) : n.names.length = m.names.length := by rw [← h.length_eq]; simp [ents]
theorem remove_any {w : World} {t : Nat} {S : Tab} {T : IT.Tr} (h : Tre w t S T) (d : Int) (s : ByteArray) :
  Calls Tryz.prog 45 #[.pointer (some ⟨t, 0, none⟩), .int .i64 d, .string s] w fun e w' => ∃ r, e = .returned (.int .i64 r) ∧ Stp w t S (fun T' => IT.isRemove T d.toNat (bs s) r T') w' := by
 have hstay : ∀ {r : Int} {e : Ending} {w' : World}, IT.isRemove T d.toNat (bs s) r T → e = .returned (.int .i64 r) ∧ w = w' → ∃ r, e = .returned (.int .i64 r) ∧ Stp w t S (fun T' => IT.isRemove T d.toNat (bs s) r T') w' := by
  rintro r e w' hr ⟨rfl, rfl⟩
  exact ⟨r, rfl, Stp.keep h hr⟩
 cases hd : S d.toNat with
 | none =>
   refine (rm_none h.rep d hd s).mono fun e w' => hstay ?_
   unfold IT.isRemove; rw [(h.none_iff _).1 hd]; exact ⟨rfl, rfl⟩
 | some p1 =>
   obtain ⟨bd, nd⟩ := p1
   obtain ⟨n, hT, hkp⟩ := h.get hd
   have hkd : nd.kind = n.kind := hkp.kind
   by_cases h1 : n.kind = 1
   · have hlo := h.look hd hT s
     cases hl : look nd.names s with
     | none =>
       refine (rm_noent h.rep d hd s (hkd.trans h1) hl).mono fun e w' => hstay ?_
       unfold IT.isRemove; rw [hT]; dsimp only; rw [if_neg (fun hh => hh h1), ← hlo, hl]; exact ⟨rfl, rfl⟩
     | some x =>
       have hfn : IT.findN (bs s) n.names = some x := by rw [← hlo]; exact hl
       obtain ⟨mx, hmx⟩ := h.snd.1.lead _ n (bs s, x) hT (IT.find_mem hfn)
       obtain ⟨bx, nx, hSx, hkx⟩ := h.back hmx
       have hlen := names_nil hkx.names
       by_cases hn : mx.names = []
       · have hnx : nx.names = [] := List.eq_nil_of_length_eq_zero (by rw [hlen, hn]; rfl)
         have hrd := (h.snd.1.rng _ n hT).2
         have hrx := (h.snd.1.rng _ mx hmx).2
         have hne := h.snd.1.apart hT hmx hfn
         have s1 := h.snd.1.del hT hmx hfn
         refine (rm_ok h.rep d hd s (hkd.trans h1) hl hSx hnx (Q := fun w' => Stp w t S (fun T' => IT.NF (IT.delT T d.toNat x (bs s) n mx) T') w') fun w1 hmv => ?_).mono ?_
         · refine loses_one hmv s1 ?_ (fun y => ?_) (fun j hj => ?_) (by rw [uX _ _ hne]; exact hSx)
           · rw [kpOf_upd]
             exact h.ties.del hT hmx hne hrd hrx (h.snd.1.ord _ n hT) hfn (kpOf_some hd) (ents (delL nd.names s)) (by
              rw [ents_del s (h.rep.nodup hd)]; exact List.Perm.refl _)
           · have h2 : IT.lnk (IT.delT T d.toNat x (bs s) n mx) y + (if x = y then 1 else 0) = IT.lnk T y := IT.del_lnk hT hmx hne hrd hrx (h.snd.1.ord _ n hT) hfn y
             have h3 := h.snd.1.many y
             unfold IT.single
             by_cases e : x = y
             · subst e; rw [if_pos rfl] at h2 ⊢; omega
             · rw [if_neg e] at h2; rw [if_neg (Ne.symm e)]; omega
           · rcases IT.del_can hT hmx hne hrd hrx (h.snd.1.ord _ n hT) hfn hj with e | e
             · exact e
             · exact absurd e (h.snd.2 j)
         · rintro e w' ⟨rfl, S', T', g1, g2, g3⟩
           refine ⟨0, rfl, S', T', g1, g2, ?_⟩
           unfold IT.isRemove; rw [hT]; dsimp only; rw [if_neg (fun hh => hh h1), hfn]
           exact ⟨mx, hmx, by rw [if_neg (fun hh => hh hn)]; exact ⟨rfl, g3⟩⟩
       · have hnx : 0 < nx.names.length := by
          rw [hlen]
          cases hmn : mx.names with
          | nil => exact absurd hmn hn
          | cons => simp
         refine (rm_busy h.rep d hd s (hkd.trans h1) hl hSx hnx).mono fun e w' => hstay ?_
         unfold IT.isRemove; rw [hT]; dsimp only; rw [if_neg (fun hh => hh h1), hfn]
         exact ⟨mx, hmx, by rw [if_pos hn]; exact ⟨rfl, rfl⟩⟩
   · refine (rm_dir h.rep d hd s (by rw [hkd]; exact h1)).mono fun e w' => hstay ?_
     unfold IT.isRemove; rw [hT]; dsimp only; rw [if_pos h1]; exact ⟨rfl, rfl⟩
end Go.Proofs.YtafonmnfeibaiaaGreat
namespace Go.Proofs.YtafonmnfeibaiaaGreat
open Go.RowKit
theorem Mv.drewN {w w1 : World} {t : Nat} {S S1 : Tab} (h : Mv w t S w1 S1) (n : Nat) : Mv w t S (w1.drewN n) S1 := h.below (belowDrewN (Below.refl _ _) n)
def movedS (S : Tab) (d b x : Nat) (bd : Nat) (nd : Nd) (bb : Nat) (nb1 : Nd) (bx : Nat) (nx : Nd) (s : ByteArray) (l2 : List (ByteArray × Nat)) : Tab :=
 upd (upd (upd S d (some (bd, { nd with names := delL nd.names s }))) b (some (bb, { nb1 with names := l2 }))) x (some (bx, { nx with parent := if nx.kind = 1 then b else nx.parent }))
structure MvW (w1 : World) (t : Nat) (S : Tab) (d b x : Nat) (bd bb bx : Nat) (nd nb1 nx : Nd) (s ar : ByteArray) (m m2 : Nat) (O1 O2 : Obj) (l2 : List (ByteArray × Nat)) : Prop where
 mpd : nd.mp = some m
 rdel : ∀ j ty, (Builtin.delete_ #[81, 9] ty #[.map (some m), .string s]).run Tryz.prog (w1.drewN j) = .ok (.tuple #[]) ((w1.drewN j).putObj m O1)
 rupd : ∀ j, (Instr.mapUpdate 81 (.map (some m2)) (.string ar) (.int .i64 (x : Int))).run Tryz.prog ((w1.drewN j).putObj m O1).drew = .ok () (((w1.drewN j).putObj m O1).drew.putObj m2 O2)
 c10 : ∀ j, ((w1.drewN j).putObj m O1).cell? ⟨bb, 10, none⟩ = some (.map (some m2))
 c0 : ∀ j, ((w1.drewN j).putObj m O1).cell? ⟨bx, 0, none⟩ = some (.int .i64 (x : Int))
 mv : ∀ j, Mv w1 t S (((w1.drewN j).putObj m O1).drew.putObj m2 O2) (YtafonmnfeibaiaaGreat.upd (YtafonmnfeibaiaaGreat.upd S d (some (bd, { nd with names := delL nd.names s }))) b (some (bb, { nb1 with names := l2 })))
 perm : l2.Perm ((ar, x) :: delL nb1.names ar)
theorem mvW_of {w1 : World} {t : Nat} {S : Tab} (h : Rep w1 t S) {d b x bd bb bx : Nat} {nd nb nx : Nd} (hd : S d = some (bd, nd)) (hb : S b = some (bb, nb)) (hx : S x = some (bx, nx)) (hdk : nd.kind = 1) (hbk : nb.kind = 1) (hxd : x ≠ d) (hxb : x ≠ b) (s ar : ByteArray) {y : Nat} (hl : look nd.names s = some y)
  {nb1 : Nd} (hnb1 : nb1 = if b = d then { nd with names := delL nd.names s } else nb) (h40 : (delL nb1.names ar).length < 40) :
  ∃ m m2 O1 O2 l2, MvW w1 t S d b x bd bb bx nd nb1 nx s ar m m2 O1 O2 l2 := by
 obtain ⟨m, hm⟩ := h.dir_mp hd hdk
 obtain ⟨m2, hm2⟩ := h.dir_mp hb hbk
 obtain ⟨es, c, hm1, hmo⟩ := h.map _ bd nd m hd hm
 obtain ⟨es', hmo', hrun⟩ := delete_all Tryz.underlying81 Tryz.underlying9 hmo s y hl m
 have hsz := (h.small _ bd nd hd).2
 have hlen : (delL nd.names s).length ≤ 40 := by
  have h2 : (delL nd.names s).length ≤ nd.names.length := List.length_eraseP_le
  omega
 have hmv1 : ∀ j, Mv w1 t S ((w1.drewN j).putObj m (.map es' c)) (upd S d (some (bd, { nd with names := delL nd.names s }))) := fun j => ((Mv.refl h).drewN j).setMap hd hm es' c _ hmo' hlen
 have hS1 : upd S d (some (bd, { nd with names := delL nd.names s })) b = some (bb, nb1) := by
  by_cases e : b = d
  · rw [if_pos e] at hnb1
    subst e
    rw [hd] at hb
    obtain ⟨rfl, rfl⟩ := Prod.mk.inj (oI hb)
    rw [uY, hnb1]
  · rw [if_neg e] at hnb1
    rw [uX _ _ e, hb, hnb1]
 have hS1x : upd S d (some (bd, { nd with names := delL nd.names s })) x = some (bx, nx) := by rw [uX _ _ hxd]; exact hx
 have hmp1 : nb1.mp = some m2 := by
  by_cases e : b = d
  · rw [if_pos e] at hnb1
    subst e
    rw [hd] at hb
    obtain ⟨rfl, rfl⟩ := Prod.mk.inj (oI hb)
    rw [hnb1]; exact hm2
  · rw [if_neg e] at hnb1
    rw [hnb1]; exact hm2
 obtain ⟨es1, c1, hq1, hqo⟩ := (hmv1 0).rep.map b bb nb1 m2 hS1 hmp1
 obtain ⟨es2, c2, l2, hqo2, hperm, hrun2⟩ := update_all Tryz.underlying81 Tryz.underlying9 hqo ar x m2
 have hl2 : l2.length ≤ 40 := by
  rw [hperm.length_eq]
  simp only [List.length_cons]
  omega
 refine ⟨m, m2, .map es' c, .map es2 c2, l2, ⟨hm, fun j ty => hrun _ ty hm1, fun j => hrun2 _ hq1, fun j => by rw [(hmv1 j).rep.cellN hS1 10]; show some (Value.map nb1.mp) = _; rw [hmp1], fun j => ?_, fun j => ?_, hperm⟩⟩
 · rw [(hmv1 j).rep.cellN hS1x 0]
   show some (Value.int .i64 nx.ino) = _
   rw [h.ino x bx nx hx]
 · exact (hmv1 j).drew.setMap hS1 hmp1 es2 c2 l2 hqo2 hl2
theorem MvW.fin {w1 : World} {t : Nat} {S : Tab} {d b x bd bb bx : Nat} {nd nb1 nx : Nd} {s ar : ByteArray} {m m2 : Nat} {O1 O2 : Obj} {l2} (h : MvW w1 t S d b x bd bb bx nd nb1 nx s ar m m2 O1 O2 l2) (hx : S x = some (bx, nx)) (hxd : x ≠ d) (hxb : x ≠ b) (j : Nat) :
  (nx.kind = 1 → Mv w1 t S ((((w1.drewN j).putObj m O1).drew.putObj m2 O2).setCell ⟨bx, 11, none⟩ (.int .i64 (b : Int))) (movedS S d b x bd nd bb nb1 bx nx s l2)) ∧
  (nx.kind ≠ 1 → Mv w1 t S (((w1.drewN j).putObj m O1).drew.putObj m2 O2) (movedS S d b x bd nd bb nb1 bx nx s l2)) := by
 have hS : upd (upd S d (some (bd, { nd with names := delL nd.names s }))) b (some (bb, { nb1 with names := l2 })) x = some (bx, nx) := by
  rw [uX _ _ hxb, uX _ _ hxd]; exact hx
 have hmv := h.mv j
 have hsm := (hmv.rep.small x bx nx hS).1
 refine ⟨fun hk => ?_, fun hk => ?_⟩
 · exact hmv.setNode hS 11 (.int .i64 (b : Int)) { nx with parent := if nx.kind = 1 then b else nx.parent } (by simp [Nd.cells, hk]) rfl rfl rfl rfl hsm
 · have e : movedS S d b x bd nd bb nb1 bx nx s l2 = upd (upd S d (some (bd, { nd with names := delL nd.names s }))) b (some (bb, { nb1 with names := l2 })) := by
    unfold movedS
    have e2 : ({ nx with parent := if nx.kind = 1 then b else nx.parent } : Nd) = nx := by rw [if_neg hk]
    rw [e2]; exact upd_self _ _ hS
   rw [e]; exact hmv
theorem MvW.at_x {w1 : World} {t : Nat} {S : Tab} {d b x bd bb bx : Nat} {nd nb1 nx : Nd} {s ar : ByteArray} {m m2 : Nat} {O1 O2 : Obj} {l2} (h : MvW w1 t S d b x bd bb bx nd nb1 nx s ar m m2 O1 O2 l2) (hx : S x = some (bx, nx)) (hxd : x ≠ d) (hxb : x ≠ b) (i j : Nat) :
  (((w1.drewN j).putObj m O1).drew.putObj m2 O2).cell? ⟨bx, i, none⟩ = nx.cells[i]? ∧ (((w1.drewN j).putObj m O1).drew.putObj m2 O2).frozen? ⟨bx, i, none⟩ = false := by
 have hS : upd (upd S d (some (bd, { nd with names := delL nd.names s }))) b (some (bb, { nb1 with names := l2 })) x = some (bx, nx) := by
  rw [uX _ _ hxb, uX _ _ hxd]; exact hx
 exact ⟨(h.mv j).rep.cellN hS i, (h.mv j).rep.frozenN hS i⟩
theorem mv_no {w : World} {t : Nat} {S : Tab} (h : Rep w t S) (d b : Int) (s ar : ByteArray) (hn : S d.toNat = none ∨ S b.toNat = none) :
  Calls Tryz.prog 49 #[.pointer (some ⟨t, 0, none⟩), .int .i64 d, .string s, .int .i64 b, .string ar] w fun e w' => e = .returned (.int .i64 3) ∧ w = w' := by
 have H := Hd h
 have HN := Hd hn
 clear h hn
 go_enter Tryz.func49, Tryz.ntmps49
 go_wp2_with fail
 refine (pair_none H.out _ _ HN.out).mono ?_
 rintro e w' ⟨rfl, rfl⟩
 go_wp2
 go_ret
 exact ⟨rfl, rfl⟩
theorem mv_kind1 {w : World} {t bd bb : Nat} {S : Tab} {nd nb : Nd} (h : Rep w t S) (d b : Int) (hd : S d.toNat = some (bd, nd)) (hb : S b.toNat = some (bb, nb)) (s ar : ByteArray) (hkd : ¬ nd.kind = 1) :
  Calls Tryz.prog 49 #[.pointer (some ⟨t, 0, none⟩), .int .i64 d, .string s, .int .i64 b, .string ar] w fun e w' => e = .returned (.int .i64 6) ∧ w = w' := by
 have c1 := h.c1 hd
 have hkb : (nd.kind != 1) = true := by simpa using hkd
 have H := Hd h
 have HD := Hd hd
 have HB := Hd hb
 clear h hd hb hkd
 go_enter Tryz.func49, Tryz.ntmps49
 go_wp2_with fail
 refine (pair_ok H.out _ _ HD.out HB.out).mono ?_
 rintro e w' ⟨rfl, rfl⟩
 go_wp2
 go_ret
 exact ⟨rfl, rfl⟩
theorem mv_kind2 {w : World} {t bd bb : Nat} {S : Tab} {nd nb : Nd} (h : Rep w t S) (d b : Int) (hd : S d.toNat = some (bd, nd)) (hb : S b.toNat = some (bb, nb)) (s ar : ByteArray) (hkd : nd.kind = 1) (hkb : ¬ nb.kind = 1) :
  Calls Tryz.prog 49 #[.pointer (some ⟨t, 0, none⟩), .int .i64 d, .string s, .int .i64 b, .string ar] w fun e w' => e = .returned (.int .i64 6) ∧ w = w' := by
 have c1 : w.cell? ⟨bd, 1, none⟩ = some (.int .i64 1) := by rw [h.c1 hd, hkd]
 have e1 := h.c1 hb
 have hkbb : (nb.kind != 1) = true := by simpa using hkb
 have H := Hd h
 have HD := Hd hd
 have HB := Hd hb
 clear h hd hb hkd hkb
 go_enter Tryz.func49, Tryz.ntmps49
 go_wp2_with fail
 refine (pair_ok H.out _ _ HD.out HB.out).mono ?_
 rintro e w' ⟨rfl, rfl⟩
 go_wp2
 go_ret
 exact ⟨rfl, rfl⟩
theorem mv_noent {w : World} {t bd bb : Nat} {S : Tab} {nd nb : Nd} (h : Rep w t S) (d b : Int) (hd : S d.toNat = some (bd, nd)) (hb : S b.toNat = some (bb, nb)) (s ar : ByteArray) (hkd : nd.kind = 1) (hkb : nb.kind = 1) (hl : look nd.names s = none) :
  Calls Tryz.prog 49 #[.pointer (some ⟨t, 0, none⟩), .int .i64 d, .string s, .int .i64 b, .string ar] w fun e w' => e = .returned (.int .i64 3) ∧ w = w' := by
 have c1 : w.cell? ⟨bd, 1, none⟩ = some (.int .i64 1) := by rw [h.c1 hd, hkd]
 have e1 : w.cell? ⟨bb, 1, none⟩ = some (.int .i64 1) := by rw [h.c1 hb, hkb]
 have HK := Hd hkd
 have HKB := Hd hkb
 have HL := Hd hl
 have H := Hd h
 have HD := Hd hd
 have HB := Hd hb
 clear h hd hb hkd hkb hl
 go_enter Tryz.func49, Tryz.ntmps49
 go_wp2_with fail
 refine (pair_ok H.out _ _ HD.out HB.out).mono ?_
 rintro e w' ⟨rfl, rfl⟩
 go_wp2_with fail
 refine (entry_none H.out HD.out HK.out _ HL.out).mono ?_
 rintro e w' ⟨rfl, rfl⟩
 go_wp2
 go_ret
 exact ⟨rfl, rfl⟩
theorem mv_noname {w : World} {t bd bb : Nat} {S : Tab} {nd nb : Nd} (h : Rep w t S) (d b : Int) (hd : S d.toNat = some (bd, nd)) (hb : S b.toNat = some (bb, nb)) (s ar : ByteArray) (hkd : nd.kind = 1) (hkb : nb.kind = 1) {x bx : Nat} {nx : Nd} (hl : look nd.names s = some x) (hx : S x = some (bx, nx)) (hn : nameB ar = false) :
  Calls Tryz.prog 49 #[.pointer (some ⟨t, 0, none⟩), .int .i64 d, .string s, .int .i64 b, .string ar] w fun e w' => e = .returned (.int .i64 1) ∧ w = w' := by
 have c1 : w.cell? ⟨bd, 1, none⟩ = some (.int .i64 1) := by rw [h.c1 hd, hkd]
 have e1 : w.cell? ⟨bb, 1, none⟩ = some (.int .i64 1) := by rw [h.c1 hb, hkb]
 have HK := Hd hkd
 have HKB := Hd hkb
 have HL := Hd hl
 have HX := Hd hx
 have H := Hd h
 have HD := Hd hd
 have HB := Hd hb
 clear h hd hb hkd hkb hl hx
 go_enter Tryz.func49, Tryz.ntmps49
 go_wp2_with fail
 refine (pair_ok H.out _ _ HD.out HB.out).mono ?_
 rintro e w' ⟨rfl, rfl⟩
 go_wp2_with fail
 refine (entry_some H.out HD.out HK.out _ _ HL.out HX.out).mono ?_
 rintro e w' ⟨rfl, rfl⟩
 go_wp2_with fail
 refine (name_any _ _).mono ?_
 rintro e w' ⟨rfl, rfl⟩
 go_wp2
 go_ret
 exact ⟨rfl, rfl⟩
theorem mv_in {w : World} {t bd bb : Nat} {S : Tab} {nd nb : Nd} (h : Rep w t S) (d b : Int) (hd : S d.toNat = some (bd, nd)) (hb : S b.toNat = some (bb, nb)) (s ar : ByteArray) (hkd : nd.kind = 1) (hkb : nb.kind = 1) {x bx : Nat} {nx : Nd} (hl : look nd.names s = some x) (hx : S x = some (bx, nx)) (hn : nameB ar = true) (hkx : nx.kind = 1) (hwi : Calls Tryz.prog 85 #[.pointer (some ⟨t, 0, none⟩), .pointer (some ⟨bb, 0, none⟩), .pointer (some ⟨bx, 0, none⟩)] w fun e w' => e = .returned (.bool true) ∧ Below w.heap.size w w') :
  Calls Tryz.prog 49 #[.pointer (some ⟨t, 0, none⟩), .int .i64 d, .string s, .int .i64 b, .string ar] w fun e w' => e = .returned (.int .i64 8) ∧ Below w.heap.size w w' := by
 have c1 : w.cell? ⟨bd, 1, none⟩ = some (.int .i64 1) := by rw [h.c1 hd, hkd]
 have e1 : w.cell? ⟨bb, 1, none⟩ = some (.int .i64 1) := by rw [h.c1 hb, hkb]
 have HK := Hd hkd
 have HKB := Hd hkb
 have HL := Hd hl
 have HX := Hd hx
 have d1 : w.cell? ⟨bx, 1, none⟩ = some (.int .i64 1) := by rw [h.c1 hx, hkx]
 have HW := Hd hwi
 have H := Hd h
 have HD := Hd hd
 have HB := Hd hb
 clear h hd hb hkd hkb hl hx hkx hwi
 go_enter Tryz.func49, Tryz.ntmps49
 go_wp2_with fail
 refine (pair_ok H.out _ _ HD.out HB.out).mono ?_
 rintro e w' ⟨rfl, rfl⟩
 go_wp2_with fail
 refine (entry_some H.out HD.out HK.out _ _ HL.out HX.out).mono ?_
 rintro e w' ⟨rfl, rfl⟩
 go_wp2_with fail
 refine (name_any _ _).mono ?_
 rintro e w' ⟨rfl, rfl⟩
 go_wp2_with fail
 refine HW.out.mono ?_
 rintro e w' ⟨rfl, hbl⟩
 have HBL := Hd hbl
 clear hbl
 go_wp2
 go_ret
 exact ⟨rfl, HBL.out⟩
theorem mv_samed {w : World} {t bd bb : Nat} {S : Tab} {nd nb : Nd} (h : Rep w t S) (d b : Int) (hd : S d.toNat = some (bd, nd)) (hb : S b.toNat = some (bb, nb)) (s ar : ByteArray) (hkd : nd.kind = 1) (hkb : nb.kind = 1) {x bx : Nat} {nx : Nd} (hl : look nd.names s = some x) (hx : S x = some (bx, nx)) (hn : nameB ar = true) (hkx : nx.kind = 1) (hwi : Calls Tryz.prog 85 #[.pointer (some ⟨t, 0, none⟩), .pointer (some ⟨bb, 0, none⟩), .pointer (some ⟨bx, 0, none⟩)] w fun e w' => e = .returned (.bool false) ∧ Below w.heap.size w w') (hla : look nb.names ar = some x) :
  Calls Tryz.prog 49 #[.pointer (some ⟨t, 0, none⟩), .int .i64 d, .string s, .int .i64 b, .string ar] w fun e w' => e = .returned (.int .i64 0) ∧ Below w.heap.size w w' := by
 have c1 : w.cell? ⟨bd, 1, none⟩ = some (.int .i64 1) := by rw [h.c1 hd, hkd]
 have e1 : w.cell? ⟨bb, 1, none⟩ = some (.int .i64 1) := by rw [h.c1 hb, hkb]
 have HK := Hd hkd
 have HKB := Hd hkb
 have HL := Hd hl
 have HX := Hd hx
 have d1 : w.cell? ⟨bx, 1, none⟩ = some (.int .i64 1) := by rw [h.c1 hx, hkx]
 have HW := Hd hwi
 have HKX := Hd hkx
 have HLA := Hd hla
 have H := Hd h
 have HD := Hd hd
 have HB := Hd hb
 clear h hd hb hkd hkb hl hx hkx hwi hla
 go_enter Tryz.func49, Tryz.ntmps49
 go_wp2_with fail
 refine (pair_ok H.out _ _ HD.out HB.out).mono ?_
 rintro e w' ⟨rfl, rfl⟩
 go_wp2_with fail
 refine (entry_some H.out HD.out HK.out _ _ HL.out HX.out).mono ?_
 rintro e w' ⟨rfl, rfl⟩
 go_wp2_with fail
 refine (name_any _ _).mono ?_
 rintro e w' ⟨rfl, rfl⟩
 go_wp2_with fail
 refine HW.out.mono ?_
 rintro e wr ⟨rfl, hbl⟩
 have HMB := Hd ((Mv.refl H.out).below hbl)
 have HBL := Hd hbl
 clear hbl HW c1 e1 d1
 have HR := Hd HMB.out.rep
 have d1 : wr.cell? ⟨bx, 1, none⟩ = some (.int .i64 1) := by rw [HR.out.c1 HX.out, HKX.out]
 have hq := eql_self wr bx
 go_wp2_with fail
 refine (entry_some HR.out HB.out HKB.out _ _ HLA.out HX.out).mono ?_
 rintro e w' ⟨rfl, rfl⟩
 go_wp2
 go_ret
 exact ⟨rfl, HBL.out⟩
theorem mv_samef {w : World} {t bd bb : Nat} {S : Tab} {nd nb : Nd} (h : Rep w t S) (d b : Int) (hd : S d.toNat = some (bd, nd)) (hb : S b.toNat = some (bb, nb)) (s ar : ByteArray) (hkd : nd.kind = 1) (hkb : nb.kind = 1) {x bx : Nat} {nx : Nd} (hl : look nd.names s = some x) (hx : S x = some (bx, nx)) (hn : nameB ar = true) (hkx : ¬ nx.kind = 1) (hla : look nb.names ar = some x) :
  Calls Tryz.prog 49 #[.pointer (some ⟨t, 0, none⟩), .int .i64 d, .string s, .int .i64 b, .string ar] w fun e w' => e = .returned (.int .i64 0) ∧ Below w.heap.size w w' := by
 have c1 : w.cell? ⟨bd, 1, none⟩ = some (.int .i64 1) := by rw [h.c1 hd, hkd]
 have e1 : w.cell? ⟨bb, 1, none⟩ = some (.int .i64 1) := by rw [h.c1 hb, hkb]
 have HK := Hd hkd
 have HKB := Hd hkb
 have HL := Hd hl
 have HX := Hd hx
 have d1 := h.c1 hx
 have hkxb : (nx.kind == 1) = false := by simpa using hkx
 have HKX := Hd hkx
 have HLA := Hd hla
 have H := Hd h
 have HD := Hd hd
 have HB := Hd hb
 clear h hd hb hkd hkb hl hx hkx hla
 go_enter Tryz.func49, Tryz.ntmps49
 go_wp2_with fail
 refine (pair_ok H.out _ _ HD.out HB.out).mono ?_
 rintro e w' ⟨rfl, rfl⟩
 go_wp2_with fail
 refine (entry_some H.out HD.out HK.out _ _ HL.out HX.out).mono ?_
 rintro e w' ⟨rfl, rfl⟩
 go_wp2_with fail
 refine (name_any _ _).mono ?_
 rintro e w' ⟨rfl, rfl⟩
 have HMB := Hd (Mv.refl H.out)
 have HBL := Hd (Below.refl w.heap.size w)
 have HR := Hd H.out
 have hq := eql_self w bx
 go_wp2_with fail
 refine (entry_some HR.out HB.out HKB.out _ _ HLA.out HX.out).mono ?_
 rintro e w' ⟨rfl, rfl⟩
 go_wp2
 go_ret
 exact ⟨rfl, HBL.out⟩
theorem mv_fulld {w : World} {t bd bb : Nat} {S : Tab} {nd nb : Nd} (h : Rep w t S) (d b : Int) (hd : S d.toNat = some (bd, nd)) (hb : S b.toNat = some (bb, nb)) (s ar : ByteArray) (hkd : nd.kind = 1) (hkb : nb.kind = 1) {x bx : Nat} {nx : Nd} (hl : look nd.names s = some x) (hx : S x = some (bx, nx)) (hn : nameB ar = true) (hkx : nx.kind = 1) (hwi : Calls Tryz.prog 85 #[.pointer (some ⟨t, 0, none⟩), .pointer (some ⟨bb, 0, none⟩), .pointer (some ⟨bx, 0, none⟩)] w fun e w' => e = .returned (.bool false) ∧ Below w.heap.size w w') (hla : look nb.names ar = none) (hdb : d.toNat ≠ b.toNat) (hfu : 40 ≤ nb.names.length) :
  Calls Tryz.prog 49 #[.pointer (some ⟨t, 0, none⟩), .int .i64 d, .string s, .int .i64 b, .string ar] w fun e w' => e = .returned (.int .i64 9) ∧ Below w.heap.size w w' := by
 have c1 : w.cell? ⟨bd, 1, none⟩ = some (.int .i64 1) := by rw [h.c1 hd, hkd]
 have e1 : w.cell? ⟨bb, 1, none⟩ = some (.int .i64 1) := by rw [h.c1 hb, hkb]
 have HK := Hd hkd
 have HKB := Hd hkb
 have HL := Hd hl
 have HX := Hd hx
 have d1 : w.cell? ⟨bx, 1, none⟩ = some (.int .i64 1) := by rw [h.c1 hx, hkx]
 have HW := Hd hwi
 have HKX := Hd hkx
 have HLA := Hd hla
 obtain ⟨mb, hmb⟩ := h.dir_mp hb hkb
 have HMP := Hd hmb
 have HDB : Hid (bd ≠ bb) := Hd (fun e => hdb (h.inj _ _ _ _ _ (e ▸ hd) hb))
 have hn1 : 40 ≤ (nb.names.length : Int) := by omega
 have H := Hd h
 have HD := Hd hd
 have HB := Hd hb
 clear h hd hb hkd hkb hl hx hkx hwi hla hmb hdb hfu
 go_enter Tryz.func49, Tryz.ntmps49
 go_wp2_with fail
 refine (pair_ok H.out _ _ HD.out HB.out).mono ?_
 rintro e w' ⟨rfl, rfl⟩
 go_wp2_with fail
 refine (entry_some H.out HD.out HK.out _ _ HL.out HX.out).mono ?_
 rintro e w' ⟨rfl, rfl⟩
 go_wp2_with fail
 refine (name_any _ _).mono ?_
 rintro e w' ⟨rfl, rfl⟩
 go_wp2_with fail
 refine HW.out.mono ?_
 rintro e wr ⟨rfl, hbl⟩
 have HMB := Hd ((Mv.refl H.out).below hbl)
 have HBL := Hd hbl
 clear hbl HW c1 e1 d1
 have HR := Hd HMB.out.rep
 have d1 : wr.cell? ⟨bx, 1, none⟩ = some (.int .i64 1) := by rw [HR.out.c1 HX.out, HKX.out]
 have hq := fun (W : World) => eql_nil_some (P := Tryz.prog) W 79 ⟨bx, 0, none⟩ Tryz.underlying79
 have c10 : wr.cell? ⟨bb, 10, none⟩ = some (.map (some mb)) := by rw [HR.out.c10 HB.out, HMP.out]
 have hlen : ∀ ty, (Builtin.len_ #[81] ty #[.map (some mb)]).run Tryz.prog wr = .ok (.int .i64 nb.names.length) wr := fun ty => HMP.out ▸ HR.out.len HB.out ty
 have hne := neq_nodes (w := wr) (HR.out.node _ bd nd HD.out) (HR.out.node _ bb nb HB.out) HDB.out
 go_wp2_with fail
 refine (entry_none HR.out HB.out HKB.out _ HLA.out).mono ?_
 rintro e w' ⟨rfl, rfl⟩
 go_wp2
 go_ret
 exact ⟨rfl, HBL.out⟩
theorem mv_fullf {w : World} {t bd bb : Nat} {S : Tab} {nd nb : Nd} (h : Rep w t S) (d b : Int) (hd : S d.toNat = some (bd, nd)) (hb : S b.toNat = some (bb, nb)) (s ar : ByteArray) (hkd : nd.kind = 1) (hkb : nb.kind = 1) {x bx : Nat} {nx : Nd} (hl : look nd.names s = some x) (hx : S x = some (bx, nx)) (hn : nameB ar = true) (hkx : ¬ nx.kind = 1) (hla : look nb.names ar = none) (hdb : d.toNat ≠ b.toNat) (hfu : 40 ≤ nb.names.length) :
  Calls Tryz.prog 49 #[.pointer (some ⟨t, 0, none⟩), .int .i64 d, .string s, .int .i64 b, .string ar] w fun e w' => e = .returned (.int .i64 9) ∧ Below w.heap.size w w' := by
 have c1 : w.cell? ⟨bd, 1, none⟩ = some (.int .i64 1) := by rw [h.c1 hd, hkd]
 have e1 : w.cell? ⟨bb, 1, none⟩ = some (.int .i64 1) := by rw [h.c1 hb, hkb]
 have HK := Hd hkd
 have HKB := Hd hkb
 have HL := Hd hl
 have HX := Hd hx
 have d1 := h.c1 hx
 have hkxb : (nx.kind == 1) = false := by simpa using hkx
 have HKX := Hd hkx
 have HLA := Hd hla
 obtain ⟨mb, hmb⟩ := h.dir_mp hb hkb
 have HMP := Hd hmb
 have HDB : Hid (bd ≠ bb) := Hd (fun e => hdb (h.inj _ _ _ _ _ (e ▸ hd) hb))
 have hn1 : 40 ≤ (nb.names.length : Int) := by omega
 have H := Hd h
 have HD := Hd hd
 have HB := Hd hb
 clear h hd hb hkd hkb hl hx hkx hla hmb hdb hfu
 go_enter Tryz.func49, Tryz.ntmps49
 go_wp2_with fail
 refine (pair_ok H.out _ _ HD.out HB.out).mono ?_
 rintro e w' ⟨rfl, rfl⟩
 go_wp2_with fail
 refine (entry_some H.out HD.out HK.out _ _ HL.out HX.out).mono ?_
 rintro e w' ⟨rfl, rfl⟩
 go_wp2_with fail
 refine (name_any _ _).mono ?_
 rintro e w' ⟨rfl, rfl⟩
 have HMB := Hd (Mv.refl H.out)
 have HBL := Hd (Below.refl w.heap.size w)
 have HR := Hd H.out
 have hq := fun (W : World) => eql_nil_some (P := Tryz.prog) W 79 ⟨bx, 0, none⟩ Tryz.underlying79
 have c10 : w.cell? ⟨bb, 10, none⟩ = some (.map (some mb)) := by rw [HR.out.c10 HB.out, HMP.out]
 have hlen : ∀ ty, (Builtin.len_ #[81] ty #[.map (some mb)]).run Tryz.prog w = .ok (.int .i64 nb.names.length) w := fun ty => HMP.out ▸ HR.out.len HB.out ty
 have hne := neq_nodes (w := w) (HR.out.node _ bd nd HD.out) (HR.out.node _ bb nb HB.out) HDB.out
 go_wp2_with fail
 refine (entry_none HR.out HB.out HKB.out _ HLA.out).mono ?_
 rintro e w' ⟨rfl, rfl⟩
 go_wp2
 go_ret
 exact ⟨rfl, HBL.out⟩
theorem mv_kindsd {w : World} {t bd bb : Nat} {S : Tab} {nd nb : Nd} (h : Rep w t S) (d b : Int) (hd : S d.toNat = some (bd, nd)) (hb : S b.toNat = some (bb, nb)) (s ar : ByteArray) (hkd : nd.kind = 1) (hkb : nb.kind = 1) {x bx : Nat} {nx : Nd} (hl : look nd.names s = some x) (hx : S x = some (bx, nx)) (hn : nameB ar = true) (hkx : nx.kind = 1) (hwi : Calls Tryz.prog 85 #[.pointer (some ⟨t, 0, none⟩), .pointer (some ⟨bb, 0, none⟩), .pointer (some ⟨bx, 0, none⟩)] w fun e w' => e = .returned (.bool false) ∧ Below w.heap.size w w') {y by_ : Nat} {ny : Nd} (hla : look nb.names ar = some y) (hy : S y = some (by_, ny)) (hyx : y ≠ x) (hky : ¬ ny.kind = 1) :
  Calls Tryz.prog 49 #[.pointer (some ⟨t, 0, none⟩), .int .i64 d, .string s, .int .i64 b, .string ar] w fun e w' => e = .returned (.int .i64 7) ∧ Below w.heap.size w w' := by
 have c1 : w.cell? ⟨bd, 1, none⟩ = some (.int .i64 1) := by rw [h.c1 hd, hkd]
 have e1 : w.cell? ⟨bb, 1, none⟩ = some (.int .i64 1) := by rw [h.c1 hb, hkb]
 have HK := Hd hkd
 have HKB := Hd hkb
 have HL := Hd hl
 have HX := Hd hx
 have d1 : w.cell? ⟨bx, 1, none⟩ = some (.int .i64 1) := by rw [h.c1 hx, hkx]
 have HW := Hd hwi
 have HKX := Hd hkx
 have HLA := Hd hla
 have HY := Hd hy
 have HYX : Hid (by_ ≠ bx) := Hd (fun e => hyx (h.inj _ _ _ _ _ (e ▸ hy) hx))
 have HKY := Hd hky
 have H := Hd h
 have HD := Hd hd
 have HB := Hd hb
 clear h hd hb hkd hkb hl hx hkx hwi hla hy hyx hky
 go_enter Tryz.func49, Tryz.ntmps49
 go_wp2_with fail
 refine (pair_ok H.out _ _ HD.out HB.out).mono ?_
 rintro e w' ⟨rfl, rfl⟩
 go_wp2_with fail
 refine (entry_some H.out HD.out HK.out _ _ HL.out HX.out).mono ?_
 rintro e w' ⟨rfl, rfl⟩
 go_wp2_with fail
 refine (name_any _ _).mono ?_
 rintro e w' ⟨rfl, rfl⟩
 go_wp2_with fail
 refine HW.out.mono ?_
 rintro e wr ⟨rfl, hbl⟩
 have HMB := Hd ((Mv.refl H.out).below hbl)
 have HBL := Hd hbl
 clear hbl HW c1 e1 d1
 have HR := Hd HMB.out.rep
 have d1 : wr.cell? ⟨bx, 1, none⟩ = some (.int .i64 1) := by rw [HR.out.c1 HX.out, HKX.out]
 have hq := eql_nodes (w := wr) (HR.out.node _ by_ ny HY.out) (HR.out.node _ bx nx HX.out) HYX.out
 have g1 := HR.out.c1 HY.out
 have hkyb : (ny.kind == 1) = false := by have := HKY.out; simpa using this
 go_wp2_with fail
 refine (entry_some HR.out HB.out HKB.out _ _ HLA.out HY.out).mono ?_
 rintro e w' ⟨rfl, rfl⟩
 go_wp2
 go_quiet (fail)
 go_wp2
 go_ret
 exact ⟨rfl, belowDrewN HBL.out _⟩
theorem mv_kindsf {w : World} {t bd bb : Nat} {S : Tab} {nd nb : Nd} (h : Rep w t S) (d b : Int) (hd : S d.toNat = some (bd, nd)) (hb : S b.toNat = some (bb, nb)) (s ar : ByteArray) (hkd : nd.kind = 1) (hkb : nb.kind = 1) {x bx : Nat} {nx : Nd} (hl : look nd.names s = some x) (hx : S x = some (bx, nx)) (hn : nameB ar = true) (hkx : ¬ nx.kind = 1) {y by_ : Nat} {ny : Nd} (hla : look nb.names ar = some y) (hy : S y = some (by_, ny)) (hyx : y ≠ x) (hky : ny.kind = 1) :
  Calls Tryz.prog 49 #[.pointer (some ⟨t, 0, none⟩), .int .i64 d, .string s, .int .i64 b, .string ar] w fun e w' => e = .returned (.int .i64 7) ∧ Below w.heap.size w w' := by
 have c1 : w.cell? ⟨bd, 1, none⟩ = some (.int .i64 1) := by rw [h.c1 hd, hkd]
 have e1 : w.cell? ⟨bb, 1, none⟩ = some (.int .i64 1) := by rw [h.c1 hb, hkb]
 have HK := Hd hkd
 have HKB := Hd hkb
 have HL := Hd hl
 have HX := Hd hx
 have d1 := h.c1 hx
 have hkxb : (nx.kind == 1) = false := by simpa using hkx
 have HKX := Hd hkx
 have HLA := Hd hla
 have HY := Hd hy
 have HYX : Hid (by_ ≠ bx) := Hd (fun e => hyx (h.inj _ _ _ _ _ (e ▸ hy) hx))
 have HKY := Hd hky
 have H := Hd h
 have HD := Hd hd
 have HB := Hd hb
 clear h hd hb hkd hkb hl hx hkx hla hy hyx hky
 go_enter Tryz.func49, Tryz.ntmps49
 go_wp2_with fail
 refine (pair_ok H.out _ _ HD.out HB.out).mono ?_
 rintro e w' ⟨rfl, rfl⟩
 go_wp2_with fail
 refine (entry_some H.out HD.out HK.out _ _ HL.out HX.out).mono ?_
 rintro e w' ⟨rfl, rfl⟩
 go_wp2_with fail
 refine (name_any _ _).mono ?_
 rintro e w' ⟨rfl, rfl⟩
 have HMB := Hd (Mv.refl H.out)
 have HBL := Hd (Below.refl w.heap.size w)
 have HR := Hd H.out
 have hq := eql_nodes (w := w) (HR.out.node _ by_ ny HY.out) (HR.out.node _ bx nx HX.out) HYX.out
 have g1 : w.cell? ⟨by_, 1, none⟩ = some (.int .i64 1) := by rw [HR.out.c1 HY.out, HKY.out]
 go_wp2_with fail
 refine (entry_some HR.out HB.out HKB.out _ _ HLA.out HY.out).mono ?_
 rintro e w' ⟨rfl, rfl⟩
 go_wp2
 go_quiet (fail)
 go_wp2
 go_ret
 exact ⟨rfl, belowDrewN HBL.out _⟩
theorem mv_busyd {w : World} {t bd bb : Nat} {S : Tab} {nd nb : Nd} (h : Rep w t S) (d b : Int) (hd : S d.toNat = some (bd, nd)) (hb : S b.toNat = some (bb, nb)) (s ar : ByteArray) (hkd : nd.kind = 1) (hkb : nb.kind = 1) {x bx : Nat} {nx : Nd} (hl : look nd.names s = some x) (hx : S x = some (bx, nx)) (hn : nameB ar = true) (hkx : nx.kind = 1) (hwi : Calls Tryz.prog 85 #[.pointer (some ⟨t, 0, none⟩), .pointer (some ⟨bb, 0, none⟩), .pointer (some ⟨bx, 0, none⟩)] w fun e w' => e = .returned (.bool false) ∧ Below w.heap.size w w') {y by_ : Nat} {ny : Nd} (hla : look nb.names ar = some y) (hy : S y = some (by_, ny)) (hyx : y ≠ x) (hny : 0 < ny.names.length) (hky : ny.kind = 1) :
  Calls Tryz.prog 49 #[.pointer (some ⟨t, 0, none⟩), .int .i64 d, .string s, .int .i64 b, .string ar] w fun e w' => e = .returned (.int .i64 8) ∧ Below w.heap.size w w' := by
 have c1 : w.cell? ⟨bd, 1, none⟩ = some (.int .i64 1) := by rw [h.c1 hd, hkd]
 have e1 : w.cell? ⟨bb, 1, none⟩ = some (.int .i64 1) := by rw [h.c1 hb, hkb]
 have HK := Hd hkd
 have HKB := Hd hkb
 have HL := Hd hl
 have HX := Hd hx
 have d1 : w.cell? ⟨bx, 1, none⟩ = some (.int .i64 1) := by rw [h.c1 hx, hkx]
 have HW := Hd hwi
 have HKX := Hd hkx
 have HLA := Hd hla
 have HY := Hd hy
 have HYX : Hid (by_ ≠ bx) := Hd (fun e => hyx (h.inj _ _ _ _ _ (e ▸ hy) hx))
 have HKY := Hd hky
 have hny1 : 0 < (ny.names.length : Int) := by omega
 have H := Hd h
 have HD := Hd hd
 have HB := Hd hb
 clear h hd hb hkd hkb hl hx hkx hwi hla hy hyx hky hny
 go_enter Tryz.func49, Tryz.ntmps49
 go_wp2_with fail
 refine (pair_ok H.out _ _ HD.out HB.out).mono ?_
 rintro e w' ⟨rfl, rfl⟩
 go_wp2_with fail
 refine (entry_some H.out HD.out HK.out _ _ HL.out HX.out).mono ?_
 rintro e w' ⟨rfl, rfl⟩
 go_wp2_with fail
 refine (name_any _ _).mono ?_
 rintro e w' ⟨rfl, rfl⟩
 go_wp2_with fail
 refine HW.out.mono ?_
 rintro e wr ⟨rfl, hbl⟩
 have HMB := Hd ((Mv.refl H.out).below hbl)
 have HBL := Hd hbl
 clear hbl HW c1 e1 d1
 have HR := Hd HMB.out.rep
 have d1 : wr.cell? ⟨bx, 1, none⟩ = some (.int .i64 1) := by rw [HR.out.c1 HX.out, HKX.out]
 have hq := eql_nodes (w := wr) (HR.out.node _ by_ ny HY.out) (HR.out.node _ bx nx HX.out) HYX.out
 have g1 : wr.cell? ⟨by_, 1, none⟩ = some (.int .i64 1) := by rw [HR.out.c1 HY.out, HKY.out]
 have g10 := HR.out.c10 HY.out
 have hleny : ∀ j ty, (Builtin.len_ #[81] ty #[.map ny.mp]).run Tryz.prog (wr.drewN j) = .ok (.int .i64 ny.names.length) (wr.drewN j) := fun j ty => by have e := (HR.out.drewN j).len HY.out ty; exact e
 go_wp2_with fail
 refine (entry_some HR.out HB.out HKB.out _ _ HLA.out HY.out).mono ?_
 rintro e w' ⟨rfl, rfl⟩
 go_wp2
 go_quiet (fail)
 go_wp2
 go_ret
 exact ⟨rfl, belowDrewN HBL.out _⟩
theorem mv_busyf {w : World} {t bd bb : Nat} {S : Tab} {nd nb : Nd} (h : Rep w t S) (d b : Int) (hd : S d.toNat = some (bd, nd)) (hb : S b.toNat = some (bb, nb)) (s ar : ByteArray) (hkd : nd.kind = 1) (hkb : nb.kind = 1) {x bx : Nat} {nx : Nd} (hl : look nd.names s = some x) (hx : S x = some (bx, nx)) (hn : nameB ar = true) (hkx : ¬ nx.kind = 1) {y by_ : Nat} {ny : Nd} (hla : look nb.names ar = some y) (hy : S y = some (by_, ny)) (hyx : y ≠ x) (hny : 0 < ny.names.length) (hky : ¬ ny.kind = 1) :
  Calls Tryz.prog 49 #[.pointer (some ⟨t, 0, none⟩), .int .i64 d, .string s, .int .i64 b, .string ar] w fun e w' => e = .returned (.int .i64 8) ∧ Below w.heap.size w w' := by
 have c1 : w.cell? ⟨bd, 1, none⟩ = some (.int .i64 1) := by rw [h.c1 hd, hkd]
 have e1 : w.cell? ⟨bb, 1, none⟩ = some (.int .i64 1) := by rw [h.c1 hb, hkb]
 have HK := Hd hkd
 have HKB := Hd hkb
 have HL := Hd hl
 have HX := Hd hx
 have d1 := h.c1 hx
 have hkxb : (nx.kind == 1) = false := by simpa using hkx
 have HKX := Hd hkx
 have HLA := Hd hla
 have HY := Hd hy
 have HYX : Hid (by_ ≠ bx) := Hd (fun e => hyx (h.inj _ _ _ _ _ (e ▸ hy) hx))
 have HKY := Hd hky
 have hny1 : 0 < (ny.names.length : Int) := by omega
 have H := Hd h
 have HD := Hd hd
 have HB := Hd hb
 clear h hd hb hkd hkb hl hx hkx hla hy hyx hky hny
 go_enter Tryz.func49, Tryz.ntmps49
 go_wp2_with fail
 refine (pair_ok H.out _ _ HD.out HB.out).mono ?_
 rintro e w' ⟨rfl, rfl⟩
 go_wp2_with fail
 refine (entry_some H.out HD.out HK.out _ _ HL.out HX.out).mono ?_
 rintro e w' ⟨rfl, rfl⟩
 go_wp2_with fail
 refine (name_any _ _).mono ?_
 rintro e w' ⟨rfl, rfl⟩
 have HMB := Hd (Mv.refl H.out)
 have HBL := Hd (Below.refl w.heap.size w)
 have HR := Hd H.out
 have hq := eql_nodes (w := w) (HR.out.node _ by_ ny HY.out) (HR.out.node _ bx nx HX.out) HYX.out
 have g1 := HR.out.c1 HY.out
 have hkyb : (ny.kind == 1) = false := by have := HKY.out; simpa using this
 have g10 := HR.out.c10 HY.out
 have hleny : ∀ j ty, (Builtin.len_ #[81] ty #[.map ny.mp]).run Tryz.prog (w.drewN j) = .ok (.int .i64 ny.names.length) (w.drewN j) := fun j ty => by have e := (HR.out.drewN j).len HY.out ty; exact e
 go_wp2_with fail
 refine (entry_some HR.out HB.out HKB.out _ _ HLA.out HY.out).mono ?_
 rintro e w' ⟨rfl, rfl⟩
 go_wp2
 go_quiet (fail)
 go_wp2
 go_ret
 exact ⟨rfl, belowDrewN HBL.out _⟩
theorem mv_oksd {w : World} {t bd bb : Nat} {S : Tab} {nd nb : Nd} (h : Rep w t S) (d b : Int) (hd : S d.toNat = some (bd, nd)) (hb : S b.toNat = some (bb, nb)) (s ar : ByteArray) (hkd : nd.kind = 1) (hkb : nb.kind = 1) {x bx : Nat} {nx : Nd} (hl : look nd.names s = some x) (hx : S x = some (bx, nx)) (hn : nameB ar = true) (hkx : nx.kind = 1) (hwi : Calls Tryz.prog 85 #[.pointer (some ⟨t, 0, none⟩), .pointer (some ⟨bb, 0, none⟩), .pointer (some ⟨bx, 0, none⟩)] w fun e w' => e = .returned (.bool false) ∧ Below w.heap.size w w') (hla : look nb.names ar = none) (hdb : d.toNat = b.toNat) (hxd : x ≠ d.toNat) (hxb : x ≠ b.toNat) {nb1 : Nd} (hnb1 : nb1 = (if b.toNat = d.toNat then { nd with names := delL nd.names s } else nb)) (h40 : (delL nb1.names ar).length < 40) :
  Calls Tryz.prog 49 #[.pointer (some ⟨t, 0, none⟩), .int .i64 d, .string s, .int .i64 b, .string ar] w fun e w' => e = .returned (.int .i64 0) ∧ ∃ l2 : List (ByteArray × Nat), l2.Perm ((ar, x) :: delL nb1.names ar) ∧ Mv w t S w' (movedS S d.toNat b.toNat x bd nd bb nb1 bx nx s l2) := by
 have c1 : w.cell? ⟨bd, 1, none⟩ = some (.int .i64 1) := by rw [h.c1 hd, hkd]
 have e1 : w.cell? ⟨bb, 1, none⟩ = some (.int .i64 1) := by rw [h.c1 hb, hkb]
 have HK := Hd hkd
 have HKB := Hd hkb
 have HL := Hd hl
 have HX := Hd hx
 have d1 : w.cell? ⟨bx, 1, none⟩ = some (.int .i64 1) := by rw [h.c1 hx, hkx]
 have HW := Hd hwi
 have HKX := Hd hkx
 have HLA := Hd hla
 have HN1 := Hd hnb1
 have HXD := Hd hxd
 have HXB := Hd hxb
 have H40 := Hd h40
 have HBP : Hid (((b.toNat : Nat) : Int) = b) := Hd (by have := h.rng _ _ hb; omega)
 have HDB : Hid (bb = bd) := Hd (by rw [hdb, hb] at hd; exact (Prod.mk.inj (oI hd)).1)
 have H := Hd h
 have HD := Hd hd
 have HB := Hd hb
 clear h hd hb hkd hkb hl hx hkx hwi hla hdb hxd hxb h40 hnb1
 go_enter Tryz.func49, Tryz.ntmps49
 go_wp2_with fail
 refine (pair_ok H.out _ _ HD.out HB.out).mono ?_
 rintro e w' ⟨rfl, rfl⟩
 go_wp2_with fail
 refine (entry_some H.out HD.out HK.out _ _ HL.out HX.out).mono ?_
 rintro e w' ⟨rfl, rfl⟩
 go_wp2_with fail
 refine (name_any _ _).mono ?_
 rintro e w' ⟨rfl, rfl⟩
 go_wp2_with fail
 refine HW.out.mono ?_
 rintro e wr ⟨rfl, hbl⟩
 have HMB := Hd ((Mv.refl H.out).below hbl)
 have HBL := Hd hbl
 clear hbl HW c1 e1 d1
 have HR := Hd HMB.out.rep
 have d1 : wr.cell? ⟨bx, 1, none⟩ = some (.int .i64 1) := by rw [HR.out.c1 HX.out, HKX.out]
 have hq := fun (W : World) => eql_nil_some (P := Tryz.prog) W 79 ⟨bx, 0, none⟩ Tryz.underlying79
 have hne : (binOp .neq 79 (.pointer (some ⟨bd, 0, none⟩)) (.pointer (some ⟨bb, 0, none⟩))).run Tryz.prog wr = .ok (.bool false) wr := by rw [HDB.out]; exact neq_self wr bd
 go_wp2_with fail
 refine (entry_none HR.out HB.out HKB.out _ HLA.out).mono ?_
 rintro e w' ⟨rfl, rfl⟩
 obtain ⟨m, m2, O1, O2, l2, hmw⟩ := mvW_of HR.out HD.out HB.out HX.out HK.out HKB.out HXD.out HXB.out s ar HL.out HN1.out H40.out
 have HM := Hd hmw
 have q1 := hmw.rdel
 have q2 := hmw.rupd
 have q3 := hmw.c10
 have q4 := hmw.c0
 have q5 : ∀ j, (((wr.drewN j).putObj m O1).drew.putObj m2 O2).cell? ⟨bx, 1, none⟩ = some (.int .i64 1) := fun j => by rw [(HM.out.at_x HX.out HXD.out HXB.out 1 j).1]; show some (Value.int .i64 nx.kind) = _; rw [HKX.out]
 have q6 : ∀ j, (((wr.drewN j).putObj m O1).drew.putObj m2 O2).cell? ⟨bx, 11, none⟩ = some (.int .i64 (nx.parent : Int)) := fun j => (HM.out.at_x HX.out HXD.out HXB.out 11 j).1
 have q7 : ∀ j, (((wr.drewN j).putObj m O1).drew.putObj m2 O2).frozen? ⟨bx, 11, none⟩ = false := fun j => (HM.out.at_x HX.out HXD.out HXB.out 11 j).2
 have c10d : wr.cell? ⟨bd, 10, none⟩ = some (.map (some m)) := by rw [HR.out.c10 HD.out, HM.out.mpd]
 clear hmw
 go_wp2
 go_quiet (fail)
 go_wp2
 go_region
 go_wp2
 go_ret
 exact ⟨rfl, l2, HM.out.perm, by have e := fun j => HMB.out.trans ((HM.out.fin HX.out HXD.out HXB.out j).1 HKX.out); simp only [HBP.out] at e; exact e _⟩
theorem mv_oksf {w : World} {t bd bb : Nat} {S : Tab} {nd nb : Nd} (h : Rep w t S) (d b : Int) (hd : S d.toNat = some (bd, nd)) (hb : S b.toNat = some (bb, nb)) (s ar : ByteArray) (hkd : nd.kind = 1) (hkb : nb.kind = 1) {x bx : Nat} {nx : Nd} (hl : look nd.names s = some x) (hx : S x = some (bx, nx)) (hn : nameB ar = true) (hkx : ¬ nx.kind = 1) (hla : look nb.names ar = none) (hdb : d.toNat = b.toNat) (hxd : x ≠ d.toNat) (hxb : x ≠ b.toNat) {nb1 : Nd} (hnb1 : nb1 = (if b.toNat = d.toNat then { nd with names := delL nd.names s } else nb)) (h40 : (delL nb1.names ar).length < 40) :
  Calls Tryz.prog 49 #[.pointer (some ⟨t, 0, none⟩), .int .i64 d, .string s, .int .i64 b, .string ar] w fun e w' => e = .returned (.int .i64 0) ∧ ∃ l2 : List (ByteArray × Nat), l2.Perm ((ar, x) :: delL nb1.names ar) ∧ Mv w t S w' (movedS S d.toNat b.toNat x bd nd bb nb1 bx nx s l2) := by
 have c1 : w.cell? ⟨bd, 1, none⟩ = some (.int .i64 1) := by rw [h.c1 hd, hkd]
 have e1 : w.cell? ⟨bb, 1, none⟩ = some (.int .i64 1) := by rw [h.c1 hb, hkb]
 have HK := Hd hkd
 have HKB := Hd hkb
 have HL := Hd hl
 have HX := Hd hx
 have d1 := h.c1 hx
 have hkxb : (nx.kind == 1) = false := by simpa using hkx
 have HKX := Hd hkx
 have HLA := Hd hla
 have HN1 := Hd hnb1
 have HXD := Hd hxd
 have HXB := Hd hxb
 have H40 := Hd h40
 have HBP : Hid (((b.toNat : Nat) : Int) = b) := Hd (by have := h.rng _ _ hb; omega)
 have HDB : Hid (bb = bd) := Hd (by rw [hdb, hb] at hd; exact (Prod.mk.inj (oI hd)).1)
 have H := Hd h
 have HD := Hd hd
 have HB := Hd hb
 clear h hd hb hkd hkb hl hx hkx hla hdb hxd hxb h40 hnb1
 go_enter Tryz.func49, Tryz.ntmps49
 go_wp2_with fail
 refine (pair_ok H.out _ _ HD.out HB.out).mono ?_
 rintro e w' ⟨rfl, rfl⟩
 go_wp2_with fail
 refine (entry_some H.out HD.out HK.out _ _ HL.out HX.out).mono ?_
 rintro e w' ⟨rfl, rfl⟩
 go_wp2_with fail
 refine (name_any _ _).mono ?_
 rintro e w' ⟨rfl, rfl⟩
 have HMB := Hd (Mv.refl H.out)
 have HBL := Hd (Below.refl w.heap.size w)
 have HR := Hd H.out
 have hq := fun (W : World) => eql_nil_some (P := Tryz.prog) W 79 ⟨bx, 0, none⟩ Tryz.underlying79
 have hne : (binOp .neq 79 (.pointer (some ⟨bd, 0, none⟩)) (.pointer (some ⟨bb, 0, none⟩))).run Tryz.prog w = .ok (.bool false) w := by rw [HDB.out]; exact neq_self w bd
 go_wp2_with fail
 refine (entry_none HR.out HB.out HKB.out _ HLA.out).mono ?_
 rintro e w' ⟨rfl, rfl⟩
 obtain ⟨m, m2, O1, O2, l2, hmw⟩ := mvW_of HR.out HD.out HB.out HX.out HK.out HKB.out HXD.out HXB.out s ar HL.out HN1.out H40.out
 have HM := Hd hmw
 have q1 := hmw.rdel
 have q2 := hmw.rupd
 have q3 := hmw.c10
 have q4 := hmw.c0
 have q5 : ∀ j, (((w.drewN j).putObj m O1).drew.putObj m2 O2).cell? ⟨bx, 1, none⟩ = some (.int .i64 nx.kind) := fun j => by rw [(HM.out.at_x HX.out HXD.out HXB.out 1 j).1]; rfl
 have c10d : w.cell? ⟨bd, 10, none⟩ = some (.map (some m)) := by rw [HR.out.c10 HD.out, HM.out.mpd]
 clear hmw
 go_wp2
 go_quiet (fail)
 go_wp2
 go_region
 go_wp2
 go_ret
 exact ⟨rfl, l2, HM.out.perm, by have e := fun j => HMB.out.trans ((HM.out.fin HX.out HXD.out HXB.out j).2 HKX.out); exact e _⟩
theorem mv_oknd {w : World} {t bd bb : Nat} {S : Tab} {nd nb : Nd} (h : Rep w t S) (d b : Int) (hd : S d.toNat = some (bd, nd)) (hb : S b.toNat = some (bb, nb)) (s ar : ByteArray) (hkd : nd.kind = 1) (hkb : nb.kind = 1) {x bx : Nat} {nx : Nd} (hl : look nd.names s = some x) (hx : S x = some (bx, nx)) (hn : nameB ar = true) (hkx : nx.kind = 1) (hwi : Calls Tryz.prog 85 #[.pointer (some ⟨t, 0, none⟩), .pointer (some ⟨bb, 0, none⟩), .pointer (some ⟨bx, 0, none⟩)] w fun e w' => e = .returned (.bool false) ∧ Below w.heap.size w w') (hla : look nb.names ar = none) (hdb : d.toNat ≠ b.toNat) (hfu : nb.names.length < 40) (hxd : x ≠ d.toNat) (hxb : x ≠ b.toNat) {nb1 : Nd} (hnb1 : nb1 = (if b.toNat = d.toNat then { nd with names := delL nd.names s } else nb)) (h40 : (delL nb1.names ar).length < 40) :
  Calls Tryz.prog 49 #[.pointer (some ⟨t, 0, none⟩), .int .i64 d, .string s, .int .i64 b, .string ar] w fun e w' => e = .returned (.int .i64 0) ∧ ∃ l2 : List (ByteArray × Nat), l2.Perm ((ar, x) :: delL nb1.names ar) ∧ Mv w t S w' (movedS S d.toNat b.toNat x bd nd bb nb1 bx nx s l2) := by
 have c1 : w.cell? ⟨bd, 1, none⟩ = some (.int .i64 1) := by rw [h.c1 hd, hkd]
 have e1 : w.cell? ⟨bb, 1, none⟩ = some (.int .i64 1) := by rw [h.c1 hb, hkb]
 have HK := Hd hkd
 have HKB := Hd hkb
 have HL := Hd hl
 have HX := Hd hx
 have d1 : w.cell? ⟨bx, 1, none⟩ = some (.int .i64 1) := by rw [h.c1 hx, hkx]
 have HW := Hd hwi
 have HKX := Hd hkx
 have HLA := Hd hla
 have HN1 := Hd hnb1
 have HXD := Hd hxd
 have HXB := Hd hxb
 have H40 := Hd h40
 have HBP : Hid (((b.toNat : Nat) : Int) = b) := Hd (by have := h.rng _ _ hb; omega)
 obtain ⟨mb, hmb⟩ := h.dir_mp hb hkb
 have HMP := Hd hmb
 have HDB : Hid (bd ≠ bb) := Hd (fun e => hdb (h.inj _ _ _ _ _ (e ▸ hd) hb))
 have hn1 : (nb.names.length : Int) < 40 := by omega
 have H := Hd h
 have HD := Hd hd
 have HB := Hd hb
 clear h hd hb hkd hkb hl hx hkx hwi hla hmb hdb hfu hxd hxb h40 hnb1
 go_enter Tryz.func49, Tryz.ntmps49
 go_wp2_with fail
 refine (pair_ok H.out _ _ HD.out HB.out).mono ?_
 rintro e w' ⟨rfl, rfl⟩
 go_wp2_with fail
 refine (entry_some H.out HD.out HK.out _ _ HL.out HX.out).mono ?_
 rintro e w' ⟨rfl, rfl⟩
 go_wp2_with fail
 refine (name_any _ _).mono ?_
 rintro e w' ⟨rfl, rfl⟩
 go_wp2_with fail
 refine HW.out.mono ?_
 rintro e wr ⟨rfl, hbl⟩
 have HMB := Hd ((Mv.refl H.out).below hbl)
 have HBL := Hd hbl
 clear hbl HW c1 e1 d1
 have HR := Hd HMB.out.rep
 have d1 : wr.cell? ⟨bx, 1, none⟩ = some (.int .i64 1) := by rw [HR.out.c1 HX.out, HKX.out]
 have hq := fun (W : World) => eql_nil_some (P := Tryz.prog) W 79 ⟨bx, 0, none⟩ Tryz.underlying79
 have c10 : wr.cell? ⟨bb, 10, none⟩ = some (.map (some mb)) := by rw [HR.out.c10 HB.out, HMP.out]
 have hlen : ∀ ty, (Builtin.len_ #[81] ty #[.map (some mb)]).run Tryz.prog wr = .ok (.int .i64 nb.names.length) wr := fun ty => HMP.out ▸ HR.out.len HB.out ty
 have hne := neq_nodes (w := wr) (HR.out.node _ bd nd HD.out) (HR.out.node _ bb nb HB.out) HDB.out
 go_wp2_with fail
 refine (entry_none HR.out HB.out HKB.out _ HLA.out).mono ?_
 rintro e w' ⟨rfl, rfl⟩
 obtain ⟨m, m2, O1, O2, l2, hmw⟩ := mvW_of HR.out HD.out HB.out HX.out HK.out HKB.out HXD.out HXB.out s ar HL.out HN1.out H40.out
 have HM := Hd hmw
 have q1 := hmw.rdel
 have q2 := hmw.rupd
 have q3 := hmw.c10
 have q4 := hmw.c0
 have q5 : ∀ j, (((wr.drewN j).putObj m O1).drew.putObj m2 O2).cell? ⟨bx, 1, none⟩ = some (.int .i64 1) := fun j => by rw [(HM.out.at_x HX.out HXD.out HXB.out 1 j).1]; show some (Value.int .i64 nx.kind) = _; rw [HKX.out]
 have q6 : ∀ j, (((wr.drewN j).putObj m O1).drew.putObj m2 O2).cell? ⟨bx, 11, none⟩ = some (.int .i64 (nx.parent : Int)) := fun j => (HM.out.at_x HX.out HXD.out HXB.out 11 j).1
 have q7 : ∀ j, (((wr.drewN j).putObj m O1).drew.putObj m2 O2).frozen? ⟨bx, 11, none⟩ = false := fun j => (HM.out.at_x HX.out HXD.out HXB.out 11 j).2
 have c10d : wr.cell? ⟨bd, 10, none⟩ = some (.map (some m)) := by rw [HR.out.c10 HD.out, HM.out.mpd]
 clear hmw
 go_wp2
 go_quiet (fail)
 go_wp2
 go_region
 go_wp2
 go_ret
 exact ⟨rfl, l2, HM.out.perm, by have e := fun j => HMB.out.trans ((HM.out.fin HX.out HXD.out HXB.out j).1 HKX.out); simp only [HBP.out] at e; exact e _⟩
theorem mv_oknf {w : World} {t bd bb : Nat} {S : Tab} {nd nb : Nd} (h : Rep w t S) (d b : Int) (hd : S d.toNat = some (bd, nd)) (hb : S b.toNat = some (bb, nb)) (s ar : ByteArray) (hkd : nd.kind = 1) (hkb : nb.kind = 1) {x bx : Nat} {nx : Nd} (hl : look nd.names s = some x) (hx : S x = some (bx, nx)) (hn : nameB ar = true) (hkx : ¬ nx.kind = 1) (hla : look nb.names ar = none) (hdb : d.toNat ≠ b.toNat) (hfu : nb.names.length < 40) (hxd : x ≠ d.toNat) (hxb : x ≠ b.toNat) {nb1 : Nd} (hnb1 : nb1 = (if b.toNat = d.toNat then { nd with names := delL nd.names s } else nb)) (h40 : (delL nb1.names ar).length < 40) :
  Calls Tryz.prog 49 #[.pointer (some ⟨t, 0, none⟩), .int .i64 d, .string s, .int .i64 b, .string ar] w fun e w' => e = .returned (.int .i64 0) ∧ ∃ l2 : List (ByteArray × Nat), l2.Perm ((ar, x) :: delL nb1.names ar) ∧ Mv w t S w' (movedS S d.toNat b.toNat x bd nd bb nb1 bx nx s l2) := by
 have c1 : w.cell? ⟨bd, 1, none⟩ = some (.int .i64 1) := by rw [h.c1 hd, hkd]
 have e1 : w.cell? ⟨bb, 1, none⟩ = some (.int .i64 1) := by rw [h.c1 hb, hkb]
 have HK := Hd hkd
 have HKB := Hd hkb
 have HL := Hd hl
 have HX := Hd hx
 have d1 := h.c1 hx
 have hkxb : (nx.kind == 1) = false := by simpa using hkx
 have HKX := Hd hkx
 have HLA := Hd hla
 have HN1 := Hd hnb1
 have HXD := Hd hxd
 have HXB := Hd hxb
 have H40 := Hd h40
 have HBP : Hid (((b.toNat : Nat) : Int) = b) := Hd (by have := h.rng _ _ hb; omega)
 obtain ⟨mb, hmb⟩ := h.dir_mp hb hkb
 have HMP := Hd hmb
 have HDB : Hid (bd ≠ bb) := Hd (fun e => hdb (h.inj _ _ _ _ _ (e ▸ hd) hb))
 have hn1 : (nb.names.length : Int) < 40 := by omega
 have H := Hd h
 have HD := Hd hd
 have HB := Hd hb
 clear h hd hb hkd hkb hl hx hkx hla hmb hdb hfu hxd hxb h40 hnb1
 go_enter Tryz.func49, Tryz.ntmps49
 go_wp2_with fail
 refine (pair_ok H.out _ _ HD.out HB.out).mono ?_
 rintro e w' ⟨rfl, rfl⟩
 go_wp2_with fail
 refine (entry_some H.out HD.out HK.out _ _ HL.out HX.out).mono ?_
 rintro e w' ⟨rfl, rfl⟩
 go_wp2_with fail
 refine (name_any _ _).mono ?_
 rintro e w' ⟨rfl, rfl⟩
 have HMB := Hd (Mv.refl H.out)
 have HBL := Hd (Below.refl w.heap.size w)
 have HR := Hd H.out
 have hq := fun (W : World) => eql_nil_some (P := Tryz.prog) W 79 ⟨bx, 0, none⟩ Tryz.underlying79
 have c10 : w.cell? ⟨bb, 10, none⟩ = some (.map (some mb)) := by rw [HR.out.c10 HB.out, HMP.out]
 have hlen : ∀ ty, (Builtin.len_ #[81] ty #[.map (some mb)]).run Tryz.prog w = .ok (.int .i64 nb.names.length) w := fun ty => HMP.out ▸ HR.out.len HB.out ty
 have hne := neq_nodes (w := w) (HR.out.node _ bd nd HD.out) (HR.out.node _ bb nb HB.out) HDB.out
 go_wp2_with fail
 refine (entry_none HR.out HB.out HKB.out _ HLA.out).mono ?_
 rintro e w' ⟨rfl, rfl⟩
 obtain ⟨m, m2, O1, O2, l2, hmw⟩ := mvW_of HR.out HD.out HB.out HX.out HK.out HKB.out HXD.out HXB.out s ar HL.out HN1.out H40.out
 have HM := Hd hmw
 have q1 := hmw.rdel
 have q2 := hmw.rupd
 have q3 := hmw.c10
 have q4 := hmw.c0
 have q5 : ∀ j, (((w.drewN j).putObj m O1).drew.putObj m2 O2).cell? ⟨bx, 1, none⟩ = some (.int .i64 nx.kind) := fun j => by rw [(HM.out.at_x HX.out HXD.out HXB.out 1 j).1]; rfl
 have c10d : w.cell? ⟨bd, 10, none⟩ = some (.map (some m)) := by rw [HR.out.c10 HD.out, HM.out.mpd]
 clear hmw
 go_wp2
 go_quiet (fail)
 go_wp2
 go_region
 go_wp2
 go_ret
 exact ⟨rfl, l2, HM.out.perm, by have e := fun j => HMB.out.trans ((HM.out.fin HX.out HXD.out HXB.out j).2 HKX.out); exact e _⟩
theorem mv_overd {w : World} {t bd bb : Nat} {S : Tab} {nd nb : Nd} (h : Rep w t S) (d b : Int) (hd : S d.toNat = some (bd, nd)) (hb : S b.toNat = some (bb, nb)) (s ar : ByteArray) (hkd : nd.kind = 1) (hkb : nb.kind = 1) {x bx : Nat} {nx : Nd} (hl : look nd.names s = some x) (hx : S x = some (bx, nx)) (hn : nameB ar = true) (hkx : nx.kind = 1) (hwi : Calls Tryz.prog 85 #[.pointer (some ⟨t, 0, none⟩), .pointer (some ⟨bb, 0, none⟩), .pointer (some ⟨bx, 0, none⟩)] w fun e w' => e = .returned (.bool false) ∧ Below w.heap.size w w') {y by_ : Nat} {ny : Nd} (hla : look nb.names ar = some y) (hy : S y = some (by_, ny)) (hyx : y ≠ x) (hxd : x ≠ d.toNat) (hxb : x ≠ b.toNat) {nb1 : Nd} (hnb1 : nb1 = (if b.toNat = d.toNat then { nd with names := delL nd.names s } else nb)) (h40 : (delL nb1.names ar).length < 40) (hny : ny.names = []) {Q : World → Prop} (hlo : ∀ (w1 : World) (l2 : List (ByteArray × Nat)), l2.Perm ((ar, x) :: delL nb1.names ar) → Mv w t S w1 (movedS S d.toNat b.toNat x bd nd bb nb1 bx nx s l2) → Calls Tryz.prog 81 #[.pointer (some ⟨t, 0, none⟩), .pointer (some ⟨by_, 0, none⟩)] w1 fun e w' => e = .returned (.tuple #[]) ∧ Q w') (hky : ny.kind = 1) :
  Calls Tryz.prog 49 #[.pointer (some ⟨t, 0, none⟩), .int .i64 d, .string s, .int .i64 b, .string ar] w fun e w' => e = .returned (.int .i64 0) ∧ Q w' := by
 have c1 : w.cell? ⟨bd, 1, none⟩ = some (.int .i64 1) := by rw [h.c1 hd, hkd]
 have e1 : w.cell? ⟨bb, 1, none⟩ = some (.int .i64 1) := by rw [h.c1 hb, hkb]
 have HK := Hd hkd
 have HKB := Hd hkb
 have HL := Hd hl
 have HX := Hd hx
 have d1 : w.cell? ⟨bx, 1, none⟩ = some (.int .i64 1) := by rw [h.c1 hx, hkx]
 have HW := Hd hwi
 have HKX := Hd hkx
 have HLA := Hd hla
 have HY := Hd hy
 have HYX : Hid (by_ ≠ bx) := Hd (fun e => hyx (h.inj _ _ _ _ _ (e ▸ hy) hx))
 have HN1 := Hd hnb1
 have HXD := Hd hxd
 have HXB := Hd hxb
 have H40 := Hd h40
 have HBP : Hid (((b.toNat : Nat) : Int) = b) := Hd (by have := h.rng _ _ hb; omega)
 have HKY := Hd hky
 have HNY := Hd hny
 have HLO := Hd hlo
 have H := Hd h
 have HD := Hd hd
 have HB := Hd hb
 clear h hd hb hkd hkb hl hx hkx hwi hla hy hyx hky hny hlo hxd hxb h40 hnb1
 go_enter Tryz.func49, Tryz.ntmps49
 go_wp2_with fail
 refine (pair_ok H.out _ _ HD.out HB.out).mono ?_
 rintro e w' ⟨rfl, rfl⟩
 go_wp2_with fail
 refine (entry_some H.out HD.out HK.out _ _ HL.out HX.out).mono ?_
 rintro e w' ⟨rfl, rfl⟩
 go_wp2_with fail
 refine (name_any _ _).mono ?_
 rintro e w' ⟨rfl, rfl⟩
 go_wp2_with fail
 refine HW.out.mono ?_
 rintro e wr ⟨rfl, hbl⟩
 have HMB := Hd ((Mv.refl H.out).below hbl)
 have HBL := Hd hbl
 clear hbl HW c1 e1 d1
 have HR := Hd HMB.out.rep
 have d1 : wr.cell? ⟨bx, 1, none⟩ = some (.int .i64 1) := by rw [HR.out.c1 HX.out, HKX.out]
 have hq := eql_nodes (w := wr) (HR.out.node _ by_ ny HY.out) (HR.out.node _ bx nx HX.out) HYX.out
 have g1 : wr.cell? ⟨by_, 1, none⟩ = some (.int .i64 1) := by rw [HR.out.c1 HY.out, HKY.out]
 have g10 := HR.out.c10 HY.out
 have hleny : ∀ j ty, (Builtin.len_ #[81] ty #[.map ny.mp]).run Tryz.prog (wr.drewN j) = .ok (.int .i64 0) (wr.drewN j) := fun j ty => by have e := (HR.out.drewN j).len HY.out ty; rw [HNY.out] at e; exact e
 go_wp2_with fail
 refine (entry_some HR.out HB.out HKB.out _ _ HLA.out HY.out).mono ?_
 rintro e w' ⟨rfl, rfl⟩
 obtain ⟨m, m2, O1, O2, l2, hmw⟩ := mvW_of HR.out HD.out HB.out HX.out HK.out HKB.out HXD.out HXB.out s ar HL.out HN1.out H40.out
 have HM := Hd hmw
 have q1 := hmw.rdel
 have q2 := hmw.rupd
 have q3 := hmw.c10
 have q4 := hmw.c0
 have q5 : ∀ j, (((wr.drewN j).putObj m O1).drew.putObj m2 O2).cell? ⟨bx, 1, none⟩ = some (.int .i64 1) := fun j => by rw [(HM.out.at_x HX.out HXD.out HXB.out 1 j).1]; show some (Value.int .i64 nx.kind) = _; rw [HKX.out]
 have q6 : ∀ j, (((wr.drewN j).putObj m O1).drew.putObj m2 O2).cell? ⟨bx, 11, none⟩ = some (.int .i64 (nx.parent : Int)) := fun j => (HM.out.at_x HX.out HXD.out HXB.out 11 j).1
 have q7 : ∀ j, (((wr.drewN j).putObj m O1).drew.putObj m2 O2).frozen? ⟨bx, 11, none⟩ = false := fun j => (HM.out.at_x HX.out HXD.out HXB.out 11 j).2
 have c10d : wr.cell? ⟨bd, 10, none⟩ = some (.map (some m)) := by rw [HR.out.c10 HD.out, HM.out.mpd]
 clear hmw
 have hcall := fun j => HLO.out _ l2 HM.out.perm (by have e := HMB.out.trans ((HM.out.fin HX.out HXD.out HXB.out j).1 HKX.out); rw [HBP.out] at e; exact e)
 have HCA := Hd hcall
 clear hcall
 go_wp2
 go_quiet (fail)
 go_wp2
 go_region
 go_wp2_with fail
 refine (HCA.out _).mono ?_
 rintro e w' ⟨rfl, hq⟩
 have HQ := Hd hq
 clear hq
 go_wp2
 go_ret
 exact ⟨rfl, HQ.out⟩
theorem mv_overf {w : World} {t bd bb : Nat} {S : Tab} {nd nb : Nd} (h : Rep w t S) (d b : Int) (hd : S d.toNat = some (bd, nd)) (hb : S b.toNat = some (bb, nb)) (s ar : ByteArray) (hkd : nd.kind = 1) (hkb : nb.kind = 1) {x bx : Nat} {nx : Nd} (hl : look nd.names s = some x) (hx : S x = some (bx, nx)) (hn : nameB ar = true) (hkx : ¬ nx.kind = 1) {y by_ : Nat} {ny : Nd} (hla : look nb.names ar = some y) (hy : S y = some (by_, ny)) (hyx : y ≠ x) (hxd : x ≠ d.toNat) (hxb : x ≠ b.toNat) {nb1 : Nd} (hnb1 : nb1 = (if b.toNat = d.toNat then { nd with names := delL nd.names s } else nb)) (h40 : (delL nb1.names ar).length < 40) (hny : ny.names = []) {Q : World → Prop} (hlo : ∀ (w1 : World) (l2 : List (ByteArray × Nat)), l2.Perm ((ar, x) :: delL nb1.names ar) → Mv w t S w1 (movedS S d.toNat b.toNat x bd nd bb nb1 bx nx s l2) → Calls Tryz.prog 81 #[.pointer (some ⟨t, 0, none⟩), .pointer (some ⟨by_, 0, none⟩)] w1 fun e w' => e = .returned (.tuple #[]) ∧ Q w') (hky : ¬ ny.kind = 1) :
  Calls Tryz.prog 49 #[.pointer (some ⟨t, 0, none⟩), .int .i64 d, .string s, .int .i64 b, .string ar] w fun e w' => e = .returned (.int .i64 0) ∧ Q w' := by
 have c1 : w.cell? ⟨bd, 1, none⟩ = some (.int .i64 1) := by rw [h.c1 hd, hkd]
 have e1 : w.cell? ⟨bb, 1, none⟩ = some (.int .i64 1) := by rw [h.c1 hb, hkb]
 have HK := Hd hkd
 have HKB := Hd hkb
 have HL := Hd hl
 have HX := Hd hx
 have d1 := h.c1 hx
 have hkxb : (nx.kind == 1) = false := by simpa using hkx
 have HKX := Hd hkx
 have HLA := Hd hla
 have HY := Hd hy
 have HYX : Hid (by_ ≠ bx) := Hd (fun e => hyx (h.inj _ _ _ _ _ (e ▸ hy) hx))
 have HN1 := Hd hnb1
 have HXD := Hd hxd
 have HXB := Hd hxb
 have H40 := Hd h40
 have HBP : Hid (((b.toNat : Nat) : Int) = b) := Hd (by have := h.rng _ _ hb; omega)
 have HKY := Hd hky
 have HNY := Hd hny
 have HLO := Hd hlo
 have H := Hd h
 have HD := Hd hd
 have HB := Hd hb
 clear h hd hb hkd hkb hl hx hkx hla hy hyx hky hny hlo hxd hxb h40 hnb1
 go_enter Tryz.func49, Tryz.ntmps49
 go_wp2_with fail
 refine (pair_ok H.out _ _ HD.out HB.out).mono ?_
 rintro e w' ⟨rfl, rfl⟩
 go_wp2_with fail
 refine (entry_some H.out HD.out HK.out _ _ HL.out HX.out).mono ?_
 rintro e w' ⟨rfl, rfl⟩
 go_wp2_with fail
 refine (name_any _ _).mono ?_
 rintro e w' ⟨rfl, rfl⟩
 have HMB := Hd (Mv.refl H.out)
 have HBL := Hd (Below.refl w.heap.size w)
 have HR := Hd H.out
 have hq := eql_nodes (w := w) (HR.out.node _ by_ ny HY.out) (HR.out.node _ bx nx HX.out) HYX.out
 have g1 := HR.out.c1 HY.out
 have hkyb : (ny.kind == 1) = false := by have := HKY.out; simpa using this
 have g10 := HR.out.c10 HY.out
 have hleny : ∀ j ty, (Builtin.len_ #[81] ty #[.map ny.mp]).run Tryz.prog (w.drewN j) = .ok (.int .i64 0) (w.drewN j) := fun j ty => by have e := (HR.out.drewN j).len HY.out ty; rw [HNY.out] at e; exact e
 go_wp2_with fail
 refine (entry_some HR.out HB.out HKB.out _ _ HLA.out HY.out).mono ?_
 rintro e w' ⟨rfl, rfl⟩
 obtain ⟨m, m2, O1, O2, l2, hmw⟩ := mvW_of HR.out HD.out HB.out HX.out HK.out HKB.out HXD.out HXB.out s ar HL.out HN1.out H40.out
 have HM := Hd hmw
 have q1 := hmw.rdel
 have q2 := hmw.rupd
 have q3 := hmw.c10
 have q4 := hmw.c0
 have q5 : ∀ j, (((w.drewN j).putObj m O1).drew.putObj m2 O2).cell? ⟨bx, 1, none⟩ = some (.int .i64 nx.kind) := fun j => by rw [(HM.out.at_x HX.out HXD.out HXB.out 1 j).1]; rfl
 have c10d : w.cell? ⟨bd, 10, none⟩ = some (.map (some m)) := by rw [HR.out.c10 HD.out, HM.out.mpd]
 clear hmw
 have hcall := fun j => HLO.out _ l2 HM.out.perm (by have e := HMB.out.trans ((HM.out.fin HX.out HXD.out HXB.out j).2 HKX.out); exact e)
 have HCA := Hd hcall
 clear hcall
 go_wp2
 go_quiet (fail)
 go_wp2
 go_region
 go_wp2_with fail
 refine (HCA.out _).mono ?_
 rintro e w' ⟨rfl, hq⟩
 have HQ := Hd hq
 clear hq
 go_wp2
 go_ret
 exact ⟨rfl, HQ.out⟩
theorem delL_len {l : List (ByteArray × Nat)} (h : (l.map (·.1)).Nodup) {s : ByteArray} {x : Nat} (hl : look l s = some x) : (delL l s).length + 1 = l.length := by
 obtain ⟨j, _, hj, hd, _⟩ := findNow_some_of s x ((entVals l).map fun p => ⟨p.1, p.2, 0⟩) l 0 (by simp [entVals]) hl
 have hj' : j < l.length := by simpa [entVals] using hj
 rw [← hd, List.length_eraseIdx, if_pos hj']
 omega
theorem delL_none {l : List (ByteArray × Nat)} {s : ByteArray} (hl : look l s = none) : delL l s = l := by
 simp only [look, Option.map_eq_none_iff, List.find?_eq_none] at hl
 exact List.eraseP_of_forall_not (fun p hp => by simpa using hl p hp)
theorem delL_le (l : List (ByteArray × Nat)) (s : ByteArray) : (delL l s).length ≤ l.length := List.length_eraseP_le
theorem delL_nodup {l : List (ByteArray × Nat)} (h : (l.map (·.1)).Nodup) (s : ByteArray) : ((delL l s).map (·.1)).Nodup :=
 List.Nodup.sublist (List.eraseP_sublist.map _) h
theorem ents_perm {l l' : List (ByteArray × Nat)} (h : l.Perm l') : (ents l).Perm (ents l') := h.map _
section
variable {w : World} {t : Nat} {S : Tab} {T : IT.Tr} (h : Tre w t S T) {d b x bd bb bx : Nat} {nd nb nx : Nd} {n q m : IT.Nd} (hd : S d = some (bd, nd)) (hb : S b = some (bb, nb)) (hx : S x = some (bx, nx)) (hT : T d = some n) (hQ : T b = some q) (hX : T x = some m)
variable {s ar : ByteArray} (hne : x ≠ d) (hxb : x ≠ b) (hf : IT.findN (bs s) n.names = some x) {nb1 : Nd} (hnb1 : nb1 = if b = d then { nd with names := delL nd.names s } else nb)
include h hd hb hx hT hQ hX hne hxb hf hnb1
theorem moved_tie1 : IT.Ties (IT.updK (kpOf S) d (some { kp nd with names := ents (delL nd.names s) })) (IT.delT T d x (bs s) n m) (fun y => IT.calm y + IT.single x y) ∧
  IT.updK (kpOf S) d (some { kp nd with names := ents (delL nd.names s) }) b = some (kp nb1) ∧ IT.updK (kpOf S) d (some { kp nd with names := ents (delL nd.names s) }) x = some (kp nx) := by
 have _ := hQ
 have _ := hxb
 have hrd := (h.snd.1.rng _ n hT).2
 have hrx := (h.snd.1.rng _ m hX).2
 refine ⟨h.ties.delP hT hX hne hrd hrx (h.snd.1.ord _ n hT) hf (kpOf_some hd) (ents (delL nd.names s)) (by rw [ents_del s (h.rep.nodup hd)]; exact List.Perm.refl _), ?_, ?_⟩
 · by_cases e : b = d
   · rw [if_pos e] at hnb1
     subst e
     rw [IT.updK_same, hnb1]; rfl
   · rw [if_neg e] at hnb1
     rw [IT.updK_other _ _ e, hnb1]; exact kpOf_some hb
 · rw [IT.updK_other _ _ hne]; exact kpOf_some hx
theorem kpOf_moved (l2 : List (ByteArray × Nat)) : kpOf (movedS S d b x bd nd bb nb1 bx nx s l2) = IT.updK (IT.updK (IT.updK (kpOf S) d (some { kp nd with names := ents (delL nd.names s) })) x (some { kp nx with parent := if (kp nx).kind = 1 then b else (kp nx).parent })) b (some { kp nb1 with names := ents l2 }) := by
 have _ := h
 have _ := hd
 have _ := hb
 have _ := hx
 have _ := hT
 have _ := hQ
 have _ := hX
 have _ := hne
 have _ := hf
 have _ := hnb1
 unfold movedS
 rw [kpOf_upd, kpOf_upd, kpOf_upd, IT.updK_comm _ (Ne.symm hxb)]
 rfl
theorem moved_none {q1 : IT.Nd} (hq1 : IT.delT T d x (bs s) n m b = some q1) {l2 : List (ByteArray × Nat)} (hl2 : l2.Perm ((ar, x) :: delL nb1.names ar)) (hno : look nb1.names ar = none) :
  IT.Ties (kpOf (movedS S d b x bd nd bb nb1 bx nx s l2)) (IT.entT (IT.delT T d x (bs s) n m) b x (bs ar) q1 (IT.alone x m)) IT.calm := by
 obtain ⟨h1, h2, h3⟩ := moved_tie1 h hd hb hx hT hQ hX hne hxb hf hnb1
 rw [kpOf_moved h hd hb hx hT hQ hX hne hxb hf hnb1]
 refine h1.entP rfl hq1 (IT.del_at_x hne) hxb (h.snd.1.rng _ q hQ).2 (h.snd.1.rng _ m hX).2 h2 h3 (ents l2) ?_
 have e := ents_perm hl2
 rw [delL_none hno] at e
 exact e
theorem moved_over {w1 : Nat} {mw q1 : IT.Nd} (hq1 : IT.delT T d x (bs s) n m b = some q1) (hwS : IT.delT T d x (bs s) n m w1 = some mw) (hwb : w1 ≠ b) (hwx : w1 ≠ x) (hw2 : w1 ≤ 200) (ho : IT.Ord q1.names) (hfq : IT.findN (bs ar) q1.names = some w1) {l2 : List (ByteArray × Nat)} (hl2 : l2.Perm ((ar, x) :: delL nb1.names ar)) (hnd : (nb1.names.map (·.1)).Nodup) :
  IT.Ties (kpOf (movedS S d b x bd nd bb nb1 bx nx s l2)) (IT.entT (IT.delT (IT.delT T d x (bs s) n m) b w1 (bs ar) q1 mw) b x (bs ar) { q1 with names := IT.delN (bs ar) q1.names } (IT.alone x m)) (IT.single w1) := by
 obtain ⟨h1, h2, h3⟩ := moved_tie1 h hd hb hx hT hQ hX hne hxb hf hnb1
 have hb2 := (h.snd.1.rng _ q hQ).2
 have hx2 := (h.snd.1.rng _ m hX).2
 have g1 := h1.delP (nm := bs ar) hq1 hwS hwb hb2 hw2 ho hfq h2 (ents (delL nb1.names ar)) (by rw [ents_del ar hnd]; exact List.Perm.refl _)
 rw [kpOf_moved h hd hb hx hT hQ hX hne hxb hf hnb1]
 have e : (fun y => (IT.calm y + IT.single x y) + IT.single w1 y) = fun y => IT.single w1 y + IT.single x y := by
  funext y
  show (0 + IT.single x y) + IT.single w1 y = _
  omega
 rw [e] at g1
 have g2 := g1.entP (d := b) (nm := bs ar) (IT.single_other (Ne.symm hwx)) IT.del_at_d (show IT.delT (IT.delT T d x (bs s) n m) b w1 (bs ar) q1 mw x = some (IT.alone x m) by rw [IT.del_at hxb (Ne.symm hwx)]; exact IT.del_at_x hne) hxb hb2 hx2 (IT.updK_same _ _ _) (by rw [IT.updK_other _ _ hxb]; exact h3) (ents l2) (ents_perm hl2)
 rw [IT.updK_comm _ (Ne.symm hxb), IT.updK_twice] at g2
 exact g2
end
open Classical in
theorem move_any {w : World} {t : Nat} {S : Tab} {T : IT.Tr} (h : Tre w t S T) (d b : Int) (s ar : ByteArray) :
  Calls Tryz.prog 49 #[.pointer (some ⟨t, 0, none⟩), .int .i64 d, .string s, .int .i64 b, .string ar] w fun e w' => ∃ r, e = .returned (.int .i64 r) ∧ Stp w t S (fun T' => IT.isMove okN T d.toNat (bs s) b.toNat (bs ar) r T') w' := by
 have hstay : ∀ {r : Int} {e : Ending} {w' : World}, IT.isMove okN T d.toNat (bs s) b.toNat (bs ar) r T → e = .returned (.int .i64 r) ∧ w = w' → ∃ r, e = .returned (.int .i64 r) ∧ Stp w t S (fun T' => IT.isMove okN T d.toNat (bs s) b.toNat (bs ar) r T') w' := by
  rintro r e w' hr ⟨rfl, rfl⟩
  exact ⟨r, rfl, Stp.keep h hr⟩
 have hstayB : ∀ {r : Int} {e : Ending} {w' : World}, IT.isMove okN T d.toNat (bs s) b.toNat (bs ar) r T → e = .returned (.int .i64 r) ∧ Below w.heap.size w w' → ∃ r, e = .returned (.int .i64 r) ∧ Stp w t S (fun T' => IT.isMove okN T d.toNat (bs s) b.toNat (bs ar) r T') w' := by
  rintro r e w' hr ⟨rfl, hb⟩
  exact ⟨r, rfl, Stp.keepB h hb hr⟩
 cases hd : S d.toNat with
 | none =>
   refine (mv_no h.rep d b s ar (.inl hd)).mono fun e w' => hstay ?_
   unfold IT.isMove; rw [(h.none_iff _).1 hd]; exact ⟨rfl, rfl⟩
 | some p1 =>
   obtain ⟨bd, nd⟩ := p1
   obtain ⟨n, hT, hkp⟩ := h.get hd
   cases hb : S b.toNat with
   | none =>
     refine (mv_no h.rep d b s ar (.inr hb)).mono fun e w' => hstay ?_
     unfold IT.isMove; rw [hT, (h.none_iff _).1 hb]; exact ⟨rfl, rfl⟩
   | some p2 =>
     obtain ⟨bb, nb⟩ := p2
     obtain ⟨q, hQ, hkq⟩ := h.get hb
     have hkd : nd.kind = n.kind := hkp.kind
     have hkb : nb.kind = q.kind := hkq.kind
     by_cases h1 : n.kind = 1
     case neg =>
      refine (mv_kind1 h.rep d b hd hb s ar (by rw [hkd]; exact h1)).mono fun e w' => hstay ?_
      unfold IT.isMove; rw [hT, hQ]; dsimp only; rw [if_pos (.inl h1)]; exact ⟨rfl, rfl⟩
     by_cases h2 : q.kind = 1
     case neg =>
      refine (mv_kind2 h.rep d b hd hb s ar (by rw [hkd]; exact h1) (by rw [hkb]; exact h2)).mono fun e w' => hstay ?_
      unfold IT.isMove; rw [hT, hQ]; dsimp only; rw [if_pos (.inr h2)]; exact ⟨rfl, rfl⟩
     have hkd1 := hkd.trans h1
     have hkb1 := hkb.trans h2
     have hk12 : ¬ (n.kind ≠ 1 ∨ q.kind ≠ 1) := by rintro (a | a); exact a h1; exact a h2
     have hlo := h.look hd hT s
     cases hl : look nd.names s with
     | none =>
       refine (mv_noent h.rep d b hd hb s ar hkd1 hkb1 hl).mono fun e w' => hstay ?_
       unfold IT.isMove; rw [hT, hQ]; dsimp only; rw [if_neg hk12, ← hlo, hl]; exact ⟨rfl, rfl⟩
     | some x =>
       have hfn : IT.findN (bs s) n.names = some x := by rw [← hlo]; exact hl
       obtain ⟨m, hX⟩ := h.snd.1.lead _ n (bs s, x) hT (IT.find_mem hfn)
       obtain ⟨bx, nx, hx, hkx⟩ := h.back hX
       have hkxx : nx.kind = m.kind := hkx.kind
       have pre : ∀ {r : Int} {T' : IT.Tr}, (if okN (bs ar) = false then r = 1 ∧ T' = T
         else if m.kind = 1 ∧ IT.Bel T x b.toNat then r = 8 ∧ T' = T
         else match IT.findN (bs ar) q.names with
          | none =>
            if d.toNat ≠ b.toNat ∧ q.names.length ≥ 40 then r = 9 ∧ T' = T
            else r = 0 ∧ ∃ q1 m1, IT.delT T d.toNat x (bs s) n m b.toNat = some q1 ∧ IT.delT T d.toNat x (bs s) n m x = some m1 ∧ T' = IT.entT (IT.delT T d.toNat x (bs s) n m) b.toNat x (bs ar) q1 m1
          | some w => if w = x then r = 0 ∧ T' = T
            else ∃ mw, T w = some mw ∧
             if ¬ (mw.kind = 1 ↔ m.kind = 1) then r = 7 ∧ T' = T
             else if mw.names ≠ [] then r = 8 ∧ T' = T
             else r = 0 ∧ ∃ q1 q2 m2, IT.delT T d.toNat x (bs s) n m b.toNat = some q1 ∧ IT.delT (IT.delT T d.toNat x (bs s) n m) b.toNat w (bs ar) q1 mw b.toNat = some q2 ∧ IT.delT (IT.delT T d.toNat x (bs s) n m) b.toNat w (bs ar) q1 mw x = some m2 ∧ IT.NF (IT.entT (IT.delT (IT.delT T d.toNat x (bs s) n m) b.toNat w (bs ar) q1 mw) b.toNat x (bs ar) q2 m2) T') →
         IT.isMove okN T d.toNat (bs s) b.toNat (bs ar) r T' := by
        intro r T' hh
        unfold IT.isMove; rw [hT, hQ]; dsimp only; rw [if_neg hk12, hfn]
        exact ⟨m, hX, hh⟩
       by_cases h3 : nameB ar = true
       case neg =>
        have h3 : nameB ar = false := by simpa using h3
        refine (mv_noname h.rep d b hd hb s ar hkd1 hkb1 hl hx h3).mono fun e w' => hstay (pre ?_)
        rw [if_pos (by rw [← nameB_ok]; exact h3)]; exact ⟨rfl, rfl⟩
       have hok : okN (bs ar) = true := by rw [← nameB_ok]; exact h3
       have hokn : ¬ okN (bs ar) = false := by rw [hok]; intro e; cases e
       by_cases h4 : m.kind = 1 ∧ IT.Bel T x b.toNat
       · have hwi := (within_any h hb hx hQ h2).mono (R' := fun e w' => e = .returned (.bool true) ∧ Below w.heap.size w w') (by
          rintro e w' ⟨r, rfl, hr, hbl⟩
          exact ⟨by rw [hr.2 h4.2], hbl⟩)
         refine (mv_in h.rep d b hd hb s ar hkd1 hkb1 hl hx h3 (hkxx.trans h4.1) hwi).mono fun e w' => hstayB (pre ?_)
         rw [if_neg hokn, if_pos h4]; exact ⟨rfl, rfl⟩
       have hwi : m.kind = 1 → Calls Tryz.prog 85 #[.pointer (some ⟨t, 0, none⟩), .pointer (some ⟨bb, 0, none⟩), .pointer (some ⟨bx, 0, none⟩)] w fun e w' => e = .returned (.bool false) ∧ Below w.heap.size w w' := fun hmk =>
        (within_any h hb hx hQ h2).mono (by
          rintro e w' ⟨r, rfl, hr, hbl⟩
          cases r with
          | true => exact absurd ⟨hmk, hr.1 rfl⟩ h4
          | false => exact ⟨rfl, hbl⟩)
       have hlq := h.look hb hQ ar
       obtain ⟨hne, hxb, hx1⟩ := IT.move_ne h.snd hT hQ h1 h2 hfn hX hok h4
       cases hla : look nb.names ar with
       | none =>
         have hfa : IT.findN (bs ar) q.names = none := by rw [← hlq]; exact hla
         have hlen := names_nil hkq.names
         by_cases h5 : d.toNat ≠ b.toNat ∧ q.names.length ≥ 40
         · have fin := pre (r := 9) (T' := T) (by rw [if_neg hokn, if_neg h4, hfa]; dsimp only; rw [if_pos h5]; exact ⟨rfl, rfl⟩)
           by_cases hk : m.kind = 1
           · exact (mv_fulld h.rep d b hd hb s ar hkd1 hkb1 hl hx h3 (hkxx.trans hk) (hwi hk) hla h5.1 (by omega)).mono fun e w' => hstayB fin
           · exact (mv_fullf h.rep d b hd hb s ar hkd1 hkb1 hl hx h3 (by rw [hkxx]; exact hk) hla h5.1 (by omega)).mono fun e w' => hstayB fin
         · obtain ⟨q1, hq1, _, _⟩ := IT.move_q h.snd hT hQ h1 h2 hfn hX hok h4
           obtain ⟨nb1, hnb1⟩ : ∃ nb1 : Nd, nb1 = if b.toNat = d.toNat then { nd with names := delL nd.names s } else nb := ⟨_, rfl⟩
           have hnd1 : (nd.names.map (·.1)).Nodup := h.rep.nodup hd
           have hno : look nb1.names ar = none ∧ nb1.names.length < 40 := by
            by_cases e : b.toNat = d.toNat
            · rw [if_pos e] at hnb1
              rw [e, hd] at hb
              obtain ⟨_, rfl⟩ := Prod.mk.inj (oI hb)
              rw [hnb1]
              show look (delL nd.names s) ar = none ∧ (delL nd.names s).length < 40
              have h40 := (h.rep.small _ _ _ hd).2
              refine ⟨?_, by have := delL_len hnd1 hl; omega⟩
              simp only [look, Option.map_eq_none_iff, List.find?_eq_none] at hla ⊢
              exact fun p hp => hla p (List.eraseP_sublist.subset hp)
            · rw [if_neg e] at hnb1
              rw [hnb1]
              exact ⟨hla, by have : ¬ q.names.length ≥ 40 := fun a => h5 ⟨fun e2 => e e2.symm, a⟩; omega⟩
           have h40 : (delL nb1.names ar).length < 40 := by rw [delL_none hno.1]; exact hno.2
           have fin : ∀ {e : Ending} {w' : World}, (e = .returned (.int .i64 0) ∧ ∃ l2 : List (ByteArray × Nat), l2.Perm ((ar, x) :: delL nb1.names ar) ∧ Mv w t S w' (movedS S d.toNat b.toNat x bd nd bb nb1 bx nx s l2)) → ∃ r, e = .returned (.int .i64 r) ∧ Stp w t S (fun T' => IT.isMove okN T d.toNat (bs s) b.toNat (bs ar) r T') w' := by
            rintro e w' ⟨rfl, l2, hl2, hmv⟩
            refine ⟨0, rfl, _, _, hmv, moved_none h hd hb hx hT hQ hX hne hxb hfn hnb1 hq1 hl2 hno.1, pre ?_⟩
            rw [if_neg hokn, if_neg h4, hfa]; dsimp only; rw [if_neg h5]
            exact ⟨rfl, q1, IT.alone x m, hq1, IT.del_at_x hne, rfl⟩
           by_cases hdb : d.toNat = b.toNat
           · by_cases hk : m.kind = 1
             · exact (mv_oksd h.rep d b hd hb s ar hkd1 hkb1 hl hx h3 (hkxx.trans hk) (hwi hk) hla hdb hne hxb hnb1 h40).mono fun e w' => fin
             · exact (mv_oksf h.rep d b hd hb s ar hkd1 hkb1 hl hx h3 (by rw [hkxx]; exact hk) hla hdb hne hxb hnb1 h40).mono fun e w' => fin
           · have hfu : nb.names.length < 40 := by
              have : ¬ q.names.length ≥ 40 := fun a => h5 ⟨hdb, a⟩
              omega
             by_cases hk : m.kind = 1
             · exact (mv_oknd h.rep d b hd hb s ar hkd1 hkb1 hl hx h3 (hkxx.trans hk) (hwi hk) hla hdb hfu hne hxb hnb1 h40).mono fun e w' => fin
             · exact (mv_oknf h.rep d b hd hb s ar hkd1 hkb1 hl hx h3 (by rw [hkxx]; exact hk) hla hdb hfu hne hxb hnb1 h40).mono fun e w' => fin
       | some y =>
         have hfa : IT.findN (bs ar) q.names = some y := by rw [← hlq]; exact hla
         by_cases hyx : y = x
         · subst hyx
           have fin := pre (r := 0) (T' := T) (by rw [if_neg hokn, if_neg h4, hfa]; dsimp only; rw [if_pos rfl]; exact ⟨rfl, rfl⟩)
           by_cases hk : m.kind = 1
           · exact (mv_samed h.rep d b hd hb s ar hkd1 hkb1 hl hx h3 (hkxx.trans hk) (hwi hk) hla).mono fun e w' => hstayB fin
           · exact (mv_samef h.rep d b hd hb s ar hkd1 hkb1 hl hx h3 (by rw [hkxx]; exact hk) hla).mono fun e w' => hstayB fin
         · obtain ⟨my, hY⟩ := h.snd.1.lead _ q (bs ar, y) hQ (IT.find_mem hfa)
           obtain ⟨by_, ny, hy, hky⟩ := h.back hY
           have hkyy : ny.kind = my.kind := hky.kind
           have hleny := names_nil hky.names
           have pre2 : ∀ {r : Int} {T' : IT.Tr}, (if ¬ (my.kind = 1 ↔ m.kind = 1) then r = 7 ∧ T' = T
              else if my.names ≠ [] then r = 8 ∧ T' = T
              else r = 0 ∧ ∃ q1 q2 m2, IT.delT T d.toNat x (bs s) n m b.toNat = some q1 ∧ IT.delT (IT.delT T d.toNat x (bs s) n m) b.toNat y (bs ar) q1 my b.toNat = some q2 ∧ IT.delT (IT.delT T d.toNat x (bs s) n m) b.toNat y (bs ar) q1 my x = some m2 ∧ IT.NF (IT.entT (IT.delT (IT.delT T d.toNat x (bs s) n m) b.toNat y (bs ar) q1 my) b.toNat x (bs ar) q2 m2) T') →
             IT.isMove okN T d.toNat (bs s) b.toNat (bs ar) r T' := by
            intro r T' hh
            refine pre ?_
            rw [if_neg hokn, if_neg h4, hfa]; dsimp only; rw [if_neg hyx]
            exact ⟨my, hY, hh⟩
           by_cases hkk : my.kind = 1 ↔ m.kind = 1
           case neg =>
            have fin := pre2 (r := 7) (T' := T) (by rw [if_pos hkk]; exact ⟨rfl, rfl⟩)
            by_cases hk : m.kind = 1
            · exact (mv_kindsd h.rep d b hd hb s ar hkd1 hkb1 hl hx h3 (hkxx.trans hk) (hwi hk) hla hy hyx (by rw [hkyy]; exact fun a => hkk ⟨fun _ => hk, fun _ => a⟩)).mono fun e w' => hstayB fin
            · exact (mv_kindsf h.rep d b hd hb s ar hkd1 hkb1 hl hx h3 (by rw [hkxx]; exact hk) hla hy hyx (by
               rw [hkyy]
               exact Decidable.byContradiction fun a => hkk ⟨fun c => absurd c a, fun c => absurd c hk⟩)).mono fun e w' => hstayB fin
           by_cases hemp : my.names = []
           case neg =>
            have fin := pre2 (r := 8) (T' := T) (by rw [if_neg (fun a => a hkk), if_pos hemp]; exact ⟨rfl, rfl⟩)
            have hpos : 0 < ny.names.length := by
             rw [hleny]
             cases hmn : my.names with
             | nil => exact absurd hmn hemp
             | cons => simp
            by_cases hk : m.kind = 1
            · exact (mv_busyd h.rep d b hd hb s ar hkd1 hkb1 hl hx h3 (hkxx.trans hk) (hwi hk) hla hy hyx hpos (hkyy.trans (hkk.2 hk))).mono fun e w' => hstayB fin
            · exact (mv_busyf h.rep d b hd hb s ar hkd1 hkb1 hl hx h3 (by rw [hkxx]; exact hk) hla hy hyx hpos (by rw [hkyy]; exact fun a => hk (hkk.1 a))).mono fun e w' => hstayB fin
           have hnye : ny.names = [] := List.eq_nil_of_length_eq_zero (by rw [hleny, hemp]; rfl)
           obtain ⟨q1, hq1, hq1k, hq1e, hfq, hyb, hyd, hY1, s1, s3, hcan, hlnk⟩ := IT.move_over h.snd hT hQ h1 h2 hfn hX hok h4 hfa hyx hY hemp
           obtain ⟨nb1, hnb1⟩ : ∃ nb1 : Nd, nb1 = if b.toNat = d.toNat then { nd with names := delL nd.names s } else nb := ⟨_, rfl⟩
           have hnd1 : (nb1.names.map (·.1)).Nodup := by
            by_cases e : b.toNat = d.toNat
            · rw [if_pos e] at hnb1; rw [hnb1]; exact delL_nodup (h.rep.nodup hd) s
            · rw [if_neg e] at hnb1; rw [hnb1]; exact h.rep.nodup hb
           have hpq : (ents nb1.names).Perm q1.names := by
            by_cases e : b.toNat = d.toNat
            · rw [if_pos e] at hnb1 hq1e
              rw [hnb1, hq1e]
              show (ents (delL nd.names s)).Perm (IT.delN (bs s) n.names)
              rw [ents_del s (h.rep.nodup hd)]
              exact IT.perm_del hkp.names _
            · rw [if_neg e] at hnb1 hq1e
              rw [hnb1, hq1e]; exact hkq.names
           have hlk1 : look nb1.names ar = some y := by rw [← look_find, IT.perm_find (s1.ord _ q1 hq1) hpq]; exact hfq
           have h40 : (delL nb1.names ar).length < 40 := by
            have e1 := delL_len hnd1 hlk1
            have e2 : nb1.names.length ≤ 40 := by
             by_cases e : b.toNat = d.toNat
             · rw [if_pos e] at hnb1; rw [hnb1]
               have := (h.rep.small _ _ _ hd).2
               have := delL_le nd.names s
               show (delL nd.names s).length ≤ 40
               omega
             · rw [if_neg e] at hnb1; rw [hnb1]; exact (h.rep.small _ _ _ hb).2
            omega
           have hlo1 : ∀ (w1 : World) (l2 : List (ByteArray × Nat)), l2.Perm ((ar, x) :: delL nb1.names ar) → Mv w t S w1 (movedS S d.toNat b.toNat x bd nd bb nb1 bx nx s l2) → Calls Tryz.prog 81 #[.pointer (some ⟨t, 0, none⟩), .pointer (some ⟨by_, 0, none⟩)] w1 fun e w' => e = .returned (.tuple #[]) ∧ Stp w t S (fun T' => IT.NF (IT.entT (IT.delT (IT.delT T d.toNat x (bs s) n m) b.toNat y (bs ar) q1 my) b.toNat x (bs ar) { q1 with names := IT.delN (bs ar) q1.names } (IT.alone x m)) T') w' := by
            intro w1 l2 hl2 hmv
            refine loses_one hmv s3 (moved_over h hd hb hx hT hQ hX hne hxb hfn hnb1 hq1 hY1 hyb hyx (h.snd.1.rng _ my hY).2 (s1.ord _ q1 hq1) hfq hl2 hnd1) (fun y' => by rw [hlnk]; exact h.snd.1.many y') hcan (n := ny) ?_
            unfold movedS
            rw [uX _ _ hyx, uX _ _ hyb, uX _ _ hyd]
            exact hy
           have fin : ∀ {e : Ending} {w' : World}, (e = .returned (.int .i64 0) ∧ Stp w t S (fun T' => IT.NF (IT.entT (IT.delT (IT.delT T d.toNat x (bs s) n m) b.toNat y (bs ar) q1 my) b.toNat x (bs ar) { q1 with names := IT.delN (bs ar) q1.names } (IT.alone x m)) T') w') → ∃ r, e = .returned (.int .i64 r) ∧ Stp w t S (fun T' => IT.isMove okN T d.toNat (bs s) b.toNat (bs ar) r T') w' := by
            rintro e w' ⟨rfl, S', T', g1, g2, g3⟩
            refine ⟨0, rfl, S', T', g1, g2, pre2 ?_⟩
            rw [if_neg (fun a => a hkk), if_neg (fun a => a hemp)]
            exact ⟨rfl, q1, _, IT.alone x m, hq1, IT.del_at_d, by rw [IT.del_at hxb (Ne.symm hyx)]; exact IT.del_at_x hne, g3⟩
           by_cases hk : m.kind = 1
           · exact (mv_overd h.rep d b hd hb s ar hkd1 hkb1 hl hx h3 (hkxx.trans hk) (hwi hk) hla hy hyx hne hxb hnb1 h40 hnye hlo1 (hkyy.trans (hkk.2 hk))).mono fun e w' => fin
           · exact (mv_overf h.rep d b hd hb s ar hkd1 hkb1 hl hx h3 (by rw [hkxx]; exact hk) hla hy hyx hne hxb hnb1 h40 hnye hlo1 (by rw [hkyy]; exact fun a => hk (hkk.1 a))).mono fun e w' => fin
end Go.Proofs.YtafonmnfeibaiaaGreat
namespace Go.Proofs.YtafonmnfeibaiaaGreat.Pp
abbrev Bytes := List UInt8
def partsA : Bytes → Bytes → List Bytes
 | [], acc => if acc = [] then [] else [acc.reverse]
 | c :: l, acc => if c = 47 then (if acc = [] then partsA l [] else acc.reverse :: partsA l []) else partsA l (c :: acc)
def parts (l : Bytes) : List Bytes := partsA l []
theorem partsA_run : ∀ (a r acc : Bytes), (47 : UInt8) ∉ a → partsA (a ++ r) acc = partsA r (a.reverse ++ acc)
 | [], _, _, _ => rfl
 | c :: a, r, acc, h => by
   have hc : c ≠ 47 := fun e => h (by simp [e])
   have ha : (47 : UInt8) ∉ a := fun e => h (by simp [e])
   simp only [List.cons_append, partsA, hc, if_false]
   rw [partsA_run a r (c :: acc) ha]
   simp
theorem parts_cut (a b : Bytes) (h : (47 : UInt8) ∉ a) : parts (a ++ 47 :: b) = (if a = [] then [] else [a]) ++ parts b := by
 unfold parts
 rw [partsA_run a _ [] h]
 by_cases e : a = [] <;> simp [partsA, e]
theorem parts_end (a : Bytes) (h : (47 : UInt8) ∉ a) : parts a = if a = [] then [] else [a] := by
 have := partsA_run a [] [] h
 rw [List.append_nil] at this
 unfold parts
 rw [this]
 by_cases e : a = [] <;> simp [partsA, e]
theorem parts_nil : parts [] = [] := rfl
theorem stroke_at {l : Bytes} {i : Nat} (h : Lib.indexByte l 47 = i) : i < l.length ∧ (47 : UInt8) ∉ l.take i ∧ l = l.take i ++ 47 :: l.drop (i + 1) := by
 obtain ⟨h1, h2⟩ := Lib.indexByte_some h
 obtain ⟨hi, h3⟩ := List.getElem?_eq_some_iff.1 h1
 refine ⟨hi, fun hm => ?_, ?_⟩
 · obtain ⟨k, hk, he⟩ := List.getElem_of_mem hm
   rw [List.getElem_take] at he
   have hk' : k < i := by simp at hk; omega
   exact h2 k hk' (by rw [List.getElem?_eq_getElem (by omega), he])
 · conv => lhs; rw [← List.take_append_drop i l]
   rw [List.drop_eq_getElem_cons hi, h3]
theorem no_stroke {l : Bytes} (h : Lib.indexByte l 47 = -1) : (47 : UInt8) ∉ l := fun hm => by
 obtain ⟨k, hk, he⟩ := List.getElem_of_mem hm
 exact Lib.indexByte_none h k (by rw [List.getElem?_eq_getElem hk, he])
theorem ex_data (s : ByteArray) (a b : Nat) : (s.extract a b).data.toList = (s.data.toList.take b).drop a := by
 rw [ByteArray.data_extract, Array.toList_extract, List.extract_eq_take_drop, List.drop_take]
theorem sz (s : ByteArray) : s.data.toList.length = s.size := by simp
end Go.Proofs.YtafonmnfeibaiaaGreat.Pp
namespace Go.Proofs.YtafonmnfeibaiaaGreat.Pp
def IsTrim (s : ByteArray) (n : Nat) : Prop := n ≤ s.size ∧ (∀ j, n ≤ j → j < s.size → s.data[j]! = 47) ∧ (n = 0 ∨ s.data[n - 1]! ≠ 47)
def IsCut (s : ByteArray) (n i : Nat) : Prop := i ≤ n ∧ (∀ j, i ≤ j → j < n → s.data[j]! ≠ 47) ∧ (i = 0 ∨ s.data[i - 1]! = 47)
def bA (s : ByteArray) (n i : Nat) : ByteArray := if n = 0 then s else s.extract 0 i
def bB (s : ByteArray) (n i : Nat) : ByteArray := if n = 0 then ⟨#[]⟩ else s.extract i n
theorem data_get (s : ByteArray) (j : Nat) (h : j < s.size) : s.data[j]! = s[j] := by
 have h1 : j < s.data.size := h
 rw [getElem!_pos s.data j h1]; rfl
theorem toList_get (s : ByteArray) (j : Nat) (h : j < s.data.toList.length) : s.data.toList[j] = s.data[j]! := by
 have h1 : j < s.data.size := by simpa using h
 rw [getElem!_pos s.data j h1]; simp
end Go.Proofs.YtafonmnfeibaiaaGreat.Pp
namespace Go.Proofs.YtafonmnfeibaiaaGreat.Pp
def okb (c : UInt8) : Bool := decide (32 ≤ c.toNat) && decide (c.toNat ≠ 127)
def splitS (b : Bytes) : Bool × Bool × List Bytes × Int :=
 if b = [] then (false, false, [], 3)
 else if 128 < b.length ∨ ∃ x ∈ parts b, 14 < x.length then (false, false, [], 10)
 else if b.all okb = false then (false, false, [], 1)
 else (Lib.hasPrefix b [47], Lib.hasSuffix b [47] || (((parts b).getLast?.getD [] == [46]) || ((parts b).getLast?.getD [] == [46, 46])), (parts b).filter (fun x => decide (¬ x = [46])), 0)
end Go.Proofs.YtafonmnfeibaiaaGreat.Pp
namespace Go.Proofs.YtafonmnfeibaiaaGreat.Pp
open Go.RowKit
theorem idx_cases : ∀ (l : Bytes) (c : UInt8), Lib.indexByte l c = -1 ∨ ∃ i : Nat, Lib.indexByte l c = i
 | [], _ => .inl rfl
 | b :: l, c => by
   unfold Lib.indexByte
   split
   · exact .inr ⟨0, rfl⟩
   · split
     · exact .inl rfl
     · rcases idx_cases l c with h | ⟨i, h⟩
       · rename_i h2; rw [h] at h2; exact absurd rfl h2
       · exact .inr ⟨i + 1, by rw [h]; rfl⟩
theorem at_d {d : UInt8} {l : Bytes} {i : Nat} (h : Lib.indexByte l d = i) : i < l.length ∧ d ∉ l.take i ∧ l = l.take i ++ d :: l.drop (i + 1) := by
 obtain ⟨h1, h2⟩ := Lib.indexByte_some h
 obtain ⟨hi, h3⟩ := List.getElem?_eq_some_iff.1 h1
 refine ⟨hi, fun hm => ?_, ?_⟩
 · obtain ⟨k, hk, he⟩ := List.getElem_of_mem hm
   rw [List.getElem_take] at he
   have hk' : k < i := by simp at hk; omega
   exact h2 k hk' (by rw [List.getElem?_eq_getElem (by omega), he])
 · conv => lhs; rw [← List.take_append_drop i l]
   rw [List.drop_eq_getElem_cons hi, h3]
theorem no_d {d : UInt8} {l : Bytes} (h : Lib.indexByte l d = -1) : d ∉ l := fun hm => by
 obtain ⟨k, hk, he⟩ := List.getElem_of_mem hm
 exact Lib.indexByte_none h k (by rw [List.getElem?_eq_getElem hk, he])
theorem tQ (s : ByteArray) : s.toList = s.data.toList := ByteArray.toList_eq s
theorem cutl_some (d : UInt8) (s : ByteArray) (w : World) (i : Nat) (hi : Lib.indexByte s.data.toList d = i) (hs : s.size ≤ 140737488351232) :
  Calls Tryz.prog 125 #[.string s, .string ⟨#[d]⟩] w fun e w' => e = .returned (.tuple #[.string (s.extract 0 i), .string (s.extract (i + 1) s.size), .bool true]) ∧ ∃ n, w' = w.drewN n := by
 have hs1 : (s.size : Int) ≤ 140737488351232 := by omega
 have h1 := (at_d hi).1
 rw [sz] at h1
 have h1i : (i : Int) + 1 ≤ s.size := by omega
 have h1j : (i : Int) ≤ s.size := by omega
 have h1k : (0 : Int) ≤ (i : Int) + 1 := by omega
 have h1l : ((i : Int) + 1).toNat = i + 1 := by omega
 have HI := Hd hi
 clear hi
 go_enter Tryz.func125, Tryz.ntmps125
 go_wp2_with fail
 refine (Tryz.stringslite_Index_one s d _).mono ?_
 rintro e w' ⟨rfl, rfl⟩
 rw [HI.out]
 go_wp2_with fail
 go_region
 go_wp2
 exact bodyPost_ret (v := .tuple #[.string (s.extract 0 i), .string (s.extract (i + 1) s.size), .bool true]) (by simp [results, Tryz.results125, go_sem]) rfl ⟨rfl, 1, rfl⟩
theorem cutl_none (d : UInt8) (s : ByteArray) (w : World) (hi : Lib.indexByte s.data.toList d = -1) :
  Calls Tryz.prog 125 #[.string s, .string ⟨#[d]⟩] w fun e w' => e = .returned (.tuple #[.string s, .string ⟨#[]⟩, .bool false]) ∧ ∃ n, w' = w.drewN n := by
 have HI := Hd hi
 clear hi
 go_enter Tryz.func125, Tryz.ntmps125
 go_wp2_with fail
 refine (Tryz.stringslite_Index_one s d _).mono ?_
 rintro e w' ⟨rfl, rfl⟩
 rw [HI.out]
 go_wp2
 exact bodyPost_ret (v := .tuple #[.string s, .string ⟨#[]⟩, .bool false]) (by simp [results, Tryz.results125, go_sem]) rfl ⟨rfl, 0, rfl⟩
theorem cut_some (d : UInt8) (s : ByteArray) (w : World) (i : Nat) (hi : Lib.indexByte s.data.toList d = i) (hs : s.size ≤ 140737488351232) :
  Calls Tryz.prog 111 #[.string s, .string ⟨#[d]⟩] w fun e w' => e = .returned (.tuple #[.string (s.extract 0 i), .string (s.extract (i + 1) s.size), .bool true]) ∧ ∃ n, w' = w.drewN n := by
 have HI := Hd hi
 clear hi
 go_enter Tryz.func111, Tryz.ntmps111
 go_wp2_with fail
 refine (cutl_some d s _ i HI.out hs).mono ?_
 rintro e w' ⟨rfl, n, rfl⟩
 go_wp2
 exact bodyPost_ret (v := .tuple #[.string (s.extract 0 i), .string (s.extract (i + 1) s.size), .bool true]) (by simp [results, Tryz.results111, go_sem]) rfl ⟨rfl, n, rfl⟩
theorem cut_none (d : UInt8) (s : ByteArray) (w : World) (hi : Lib.indexByte s.data.toList d = -1) :
  Calls Tryz.prog 111 #[.string s, .string ⟨#[d]⟩] w fun e w' => e = .returned (.tuple #[.string s, .string ⟨#[]⟩, .bool false]) ∧ ∃ n, w' = w.drewN n := by
 have HI := Hd hi
 clear hi
 go_enter Tryz.func111, Tryz.ntmps111
 go_wp2_with fail
 refine (cutl_none d s _ HI.out).mono ?_
 rintro e w' ⟨rfl, n, rfl⟩
 go_wp2
 exact bodyPost_ret (v := .tuple #[.string s, .string ⟨#[]⟩, .bool false]) (by simp [results, Tryz.results111, go_sem]) rfl ⟨rfl, n, rfl⟩
def CutPost (d : UInt8) (s : ByteArray) (w : World) (e : Ending) (w' : World) : Prop :=
 ∃ (a b : ByteArray) (ok : Bool), e = .returned (.tuple #[.string a, .string b, .bool ok]) ∧ (∃ k, w' = w.drewN k) ∧ a.size ≤ s.size ∧ b.size ≤ s.size ∧
  ((ok = true ∧ s.data.toList = a.data.toList ++ d :: b.data.toList ∧ d ∉ a.data.toList) ∨ (ok = false ∧ d ∉ s.data.toList ∧ a = s ∧ b = ⟨#[]⟩))
theorem cut_any (d : UInt8) (s : ByteArray) (w : World) (hs : s.size ≤ 140737488351232) : Calls Tryz.prog 111 #[.string s, .string ⟨#[d]⟩] w (CutPost d s w) := by
 rcases idx_cases s.data.toList d with hi | ⟨i, hi⟩
 · refine (cut_none d s w hi).mono ?_
   rintro e w' ⟨rfl, hk⟩
   exact ⟨s, ⟨#[]⟩, false, rfl, hk, Nat.le_refl _, Nat.zero_le _, .inr ⟨rfl, no_d hi, rfl, rfl⟩⟩
 · refine (cut_some d s w i hi hs).mono ?_
   rintro e w' ⟨rfl, hk⟩
   obtain ⟨h1, h2, h3⟩ := at_d hi
   exact ⟨_, _, true, rfl, hk, by rw [ByteArray.size_extract]; exact Nat.le_trans (Nat.sub_le _ _) (Nat.min_le_right _ _), by rw [ByteArray.size_extract]; exact Nat.le_trans (Nat.sub_le _ _) (Nat.min_le_right _ _), .inl ⟨rfl, by
     rw [ex_data, ex_data, List.drop_zero, show s.data.toList.take s.size = s.data.toList from List.take_of_length_le (by rw [sz]; exact Nat.le_refl _)]; exact h3, by rw [ex_data, List.drop_zero]; exact h2⟩⟩
theorem ret_bool {a b : Bool} (h : a = b) : Ending.returned (.bool a) = .returned (.bool b) := by rw [h]
def okc (c : UInt8) : Bool := decide (32 ≤ c.toNat) && decide (c.toNat ≠ 127)
def plainB (l : List UInt8) : Bool := l.all okc
theorem plain_take (s : ByteArray) (k : Nat) (h : k < s.size) : plainB (s.data.toList.take (k + 1)) = (plainB (s.data.toList.take k) && okc s[k]) := by
 unfold plainB
 rw [List.take_succ_eq_append_getElem (by simpa using h), List.all_append]
 simp only [List.all_cons, List.all_nil, Bool.and_true]
 rfl
theorem plain_all (s : ByteArray) (k : Nat) (hk : s.size ≤ k) : s.data.toList.take k = s.data.toList := List.take_of_length_le (by simpa using hk)
theorem plain_bad (s : ByteArray) (k : Nat) (h : k < s.size) (hb : okc s[k] = false) : plainB s.data.toList = false := by
 unfold plainB
 rw [List.all_eq_false]
 exact ⟨s[k], by have : s[k] = s.data.toList[k]'(by simpa using h) := rfl
                 rw [this]; exact List.getElem_mem _, by simp [hb]⟩
theorem plain_any (s : ByteArray) (w : World) (hs : s.size ≤ 1000000) :
  Calls Tryz.prog 47 #[.string s] w fun e w' => e = .returned (.bool (plainB s.data.toList)) ∧ w = w' := by
 go_enter Tryz.func47, Tryz.ntmps47
 go_wp2
 go_loop [6] (fun i => ∃ k : Nat, k ≤ s.size ∧ i = .int .i64 k ∧ plainB (s.data.toList.take k) = true) (fun i => s.size - (intOf i).toNat)
 case atStart => exact ⟨0, Nat.zero_le _, rfl, rfl⟩
 case round =>
  obtain ⟨k, hk, rfl, hp⟩ := hrel
  have HP := Hd hp
  clear hp
  by_cases hlt : k < s.size
  · by_cases h1 : (s[k].toNat : Int) < 32
    · have hb : okc s[k] = false := by simp [okc]; omega
      have HB := Hd hb
      clear hb
      go_wp2
      go_ret
      exact ⟨ret_bool (plain_bad s k hlt HB.out).symm, rfl⟩
    · by_cases h2 : ((s[k].toNat : Int) == 127) = true
      · have hb : okc s[k] = false := by simp at h2; simp [okc]; omega
        have HB := Hd hb
        clear hb
        go_wp2
        go_ret
        exact ⟨ret_bool (plain_bad s k hlt HB.out).symm, rfl⟩
      · have h3 : ((s[k].toNat : Int) == 127) = false := by simpa using h2
        have hb : okc s[k] = true := by simp at h3; simp [okc]; omega
        have HB := Hd hb
        clear hb h2
        go_wp2
        go_round
        case rel => exact ⟨k + 1, by omega, by go_num, by rw [plain_take s k hlt, HP.out, HB.out]; rfl⟩
        case measure => simp [intOf]; omega
  · go_wp2
    go_ret
    exact ⟨ret_bool (by rw [plain_all s k (by omega)] at HP; exact HP.out.symm), rfl⟩
theorem info9 : (Tryz.prog.info? 9).map (fun i => (i.zero, i.size, i.bytes)) = some (some (.string ByteArray.empty), 1, 16) := by kernel_rfl
theorem own_ge {w : World} {base : Nat} {e : TypeId} {sz n : Nat} {v : Value} {xs : List Value} (h : w.ownsRow base e sz v n xs) : ∀ k, v.ownBlock = some k → base ≤ k := by
 intro k hk
 obtain ⟨_, ⟨rfl, h0⟩ | ⟨g, cap, cur, rfl, hb, _⟩⟩ := h
 · cases hk
 · cases hk; exact hb
theorem app_below {w wr w1 : World} {o : Value} {n : Nat} {xs : List Value} (hb : Below w.heap.size w wr) (ho : wr.ownsRow w.heap.size 9 1 o n xs) (X : Obj) (hg : (wr.alloc X).grownBy w1 o.ownBlock) : Below w.heap.size w w1 :=
 (hb.alloc hb.size X).grown hg (by have := hb.size; rw [World.size_alloc]; omega) (own_ge ho)
open Go.RowKit Go.Shelf
attribute [local go_sem] Oper.semAt_some
def left (Bn : Nat) (w : World) : Nat := match w.cell? ⟨Bn, 0, none⟩ with
 | some (.string r) => r.size
 | _ => 0
theorem left_eq {Bn : Nat} {w : World} {r : ByteArray} (h : w.cell? ⟨Bn, 0, none⟩ = some (.string r)) : left Bn w = r.size := by simp [left, h]
theorem names_in (n l Bn : Nat) (s : ByteArray) (J : List ByteArray → World → Prop) (Jx : World → Prop) (hs : s.size ≤ 1000000)
  (hY : ∀ pre x W, J pre W → x.data.toList ∈ parts s.data.toList → x.size ≤ s.size → pre.length < s.size → YieldAt Fence.wide (n - 1) Tryz.prog l #[.string x] W fun e W' =>
    (e = .returned (.bool true) ∧ J (pre ++ [x]) W' ∧ W'.heap[Bn]? = W.heap[Bn]?) ∨ (e = .returned (.bool false) ∧ Jx W'))
  (hC : ∀ pre W v, J pre W → J pre (W.setCell ⟨Bn, 0, none⟩ v)) (hD : ∀ pre W q, J pre W → J pre (W.drewN q))
  (W : World) (hc : W.cell? ⟨Bn, 0, none⟩ = some (.string s)) (hf : W.frozen? ⟨Bn, 0, none⟩ = false) (h0 : J [] W) :
  CallsIn Fence.wide n Tryz.prog 110 #[.func (.yield l) #[] #[], .pointer (some ⟨Bn, 0, none⟩)] W fun e W' => (∃ v, e = .returned v) ∧
   ((∃ xs, xs.map (fun x : ByteArray => x.data.toList) = parts s.data.toList ∧ J xs W') ∨ Jx W') := by
 refine callsIn_of_wp Tryz.func110 rfl trivial ?_ rfl
 simp only [Tryz.ntmps110, List.size_toArray, List.length_cons, List.length_nil, Nat.reduceAdd, Nat.reduceSub, Array.replicate_succ, Array.replicate_zero, List.push_toArray, List.append_toArray, List.nil_append, List.cons_append]
 have HY := Hd hY
 have HC := Hd hC
 have HD := Hd hD
 have H0 := Hd h0
 have HCell := Hd hc
 have HF := Hd hf
 clear hY hC hD h0 hc hf
 gi_wp2
 gi_loopw [3] (fun _ wr => ∃ (pre : List ByteArray) (r : ByteArray), wr.cell? ⟨Bn, 0, none⟩ = some (.string r) ∧ wr.frozen? ⟨Bn, 0, none⟩ = false ∧ pre.length + r.size ≤ s.size ∧ parts s.data.toList = pre.map (fun x : ByteArray => x.data.toList) ++ parts r.data.toList ∧ J pre wr)
  (fun _ wr => left Bn wr)
 case atStart =>
  exact ⟨[], s, HCell.out, HF.out, by simp, by simp, H0.out⟩
 case round =>
  obtain ⟨pre, r, hcr, hfr, hl, hp, hJ⟩ := hrel
  have HP := Hd hp
  have HJ := Hd hJ
  have HL := Hd hl
  clear hp hJ hl
  by_cases hr : r.data.toList = []
  · have hr1 : r.toList = [] := by rw [tQ]; exact hr
    have HR := Hd hr
    clear hr
    gi_wp2
    go_end0
    exact ⟨⟨_, rfl⟩, .inl ⟨pre, by rw [HP.out, HR.out]; simp [parts_nil], HJ.out⟩⟩
  · have hr1 : r.toList.isEmpty = false := by rw [tQ]; cases hh : r.data.toList with | nil => exact absurd hh hr | cons => rfl
    have HR := Hd hr
    clear hr
    rcases Int.lt_or_le (Lib.indexByte r.data.toList 47) 0 with hi | hi
    · have HI : Hid (Lib.indexByte r.data.toList 47 = -1) := Hd (by have := Lib.indexByte_ge r.data.toList 47; omega)
      clear hi
      gi_wp2_with fail
      refine ⟨trivial, fun h => (by cases h), ?_⟩
      refine (callsIn_wide.2 (cut_none 47 r _ HI.out)).mono ?_
      rintro e w' ⟨rfl, q, rfl⟩
      have HX : Hid (r.data.toList ≠ []) := HR
      have hrz : 0 < r.size := by rw [← sz]; exact List.length_pos_iff.2 HR.out
      have HPE := Hd (parts_end r.data.toList (no_stroke HI.out))
      obtain ⟨fn, tmps, assign, body, hy, hR⟩ := HY.out pre r (wr.drewN q) (HD.out _ _ _ HJ.out) (by rw [HP.out, HPE.out, if_neg HX.out]; simp) (by have := HL.out; omega) (by have := HL.out; omega)
      gi_wp2
      refine ⟨fun h => (by cases h), hR.mono ?_⟩
      rintro e W3 (⟨rfl, hJ3, hk3⟩ | ⟨rfl, hJx3⟩)
      · have hc3 : W3.cell? ⟨Bn, 0, none⟩ = some (.string r) := (World.cell?_of_block (w := wr.drewN q) (a := ⟨Bn, 0, none⟩) hk3).trans hcr
        have hf3 : W3.frozen? ⟨Bn, 0, none⟩ = false := (World.frozen?_of_block (w := wr.drewN q) (a := ⟨Bn, 0, none⟩) hk3).trans hfr
        have HJ3 := Hd hJ3
        clear hJ3 hk3 hy hR
        gi_wp2
        have e1 : (W3.setCell ⟨Bn, 0, none⟩ (.string ⟨#[]⟩)).cell? ⟨Bn, 0, none⟩ = some (.string ⟨#[]⟩) := World.cell?_setCell_same _ _ _ hc3
        go_roundw
        case rel => exact ⟨pre ++ [r], ⟨#[]⟩, e1, by rw [World.frozen?_setCell]; exact hf3, by have := HL.out; have e9 : ({ data := #[] } : ByteArray).size = 0 := rfl; simp only [List.length_append, List.length_cons, List.length_nil]; omega, by rw [HP.out, HPE.out, if_neg HR.out, show (({ data := #[] } : ByteArray).data.toList) = [] from rfl, parts_nil]; simp, HC.out _ _ _ HJ3.out⟩
        case measure => rw [left_eq e1, left_eq hcr]; exact hrz
      · gi_wp2
        refine bodyPost_ret (results_none rfl _ _ _) rfl ?_
        exact ⟨⟨_, rfl⟩, .inr hJx3⟩
    · obtain ⟨i, hi'⟩ : ∃ i : Nat, Lib.indexByte r.data.toList 47 = i := ⟨(Lib.indexByte r.data.toList 47).toNat, by omega⟩
      have HI := Hd hi'
      have hilt : i < r.size := by have := (stroke_at hi').1; rwa [sz] at this
      have HPE : Hid (parts r.data.toList = (if (r.extract 0 i).data.toList = [] then [] else [(r.extract 0 i).data.toList]) ++ parts (r.extract (i + 1) r.size).data.toList) := Hd (by
       obtain ⟨h1, h2, h3⟩ := stroke_at hi'
       have e1 : (r.extract 0 i).data.toList = r.data.toList.take i := by rw [ex_data]; simp
       have e2 : (r.extract (i + 1) r.size).data.toList = r.data.toList.drop (i + 1) := by rw [ex_data, List.take_of_length_le (by rw [sz]; exact Nat.le_refl _)]
       rw [e1, e2]
       conv => lhs; rw [h3]
       exact parts_cut _ _ h2)
      have hes : (r.extract 0 i).size = i := by simp [ByteArray.size_extract]; omega
      have HES := Hd hes
      clear hi hi' hes
      gi_wp2_with fail
      refine ⟨trivial, fun h => (by cases h), ?_⟩
      refine (callsIn_wide.2 (cut_some 47 r _ i HI.out (by have := HL.out; omega))).mono ?_
      rintro e w' ⟨rfl, q, rfl⟩
      by_cases h0 : i = 0
      · subst h0
        have hx2 : (r.extract 0 0).data.toList = [] := by rw [ex_data]; simp
        have hx1 : (r.extract 0 0).toList = [] := by rw [tQ]; exact hx2
        have HX := Hd hx2
        have hcr2 : (wr.drewN q).cell? ⟨Bn, 0, none⟩ = some (.string r) := hcr
        clear hx2
        gi_wp2
        refine ⟨fun _ h => (by cases h), ?_⟩
        gi_wp2
        have e1 : ((wr.drewN q).setCell ⟨Bn, 0, none⟩ (.string (r.extract 1 r.size))).cell? ⟨Bn, 0, none⟩ = some (.string (r.extract 1 r.size)) := World.cell?_setCell_same _ _ _ hcr2
        go_roundw
        case rel => exact ⟨pre, r.extract 1 r.size, e1, by rw [World.frozen?_setCell]; exact hfr, by have := HL.out; simp [ByteArray.size_extract]; omega, by rw [HP.out, HPE.out, if_pos HX.out]; simp, HC.out _ _ _ (HD.out _ _ _ HJ.out)⟩
        case measure => rw [left_eq e1, left_eq hcr]; simp [ByteArray.size_extract]; omega
      · have HX : Hid ((r.extract 0 i).data.toList ≠ []) := Hd (fun e => by have := congrArg List.length e; rw [sz, HES.out] at this; exact h0 this)
        have hx1 : (r.extract 0 i).toList.isEmpty = false := by rw [tQ]; cases hh : (r.extract 0 i).data.toList with | nil => exact absurd hh HX.out | cons => rfl
        obtain ⟨fn, tmps, assign, body, hy, hR⟩ := HY.out pre (r.extract 0 i) (wr.drewN q) (HD.out _ _ _ HJ.out) (by rw [HP.out, HPE.out, if_neg HX.out]; simp) (by have := HL.out; simp [ByteArray.size_extract]; omega) (by have := HL.out; omega)
        gi_wp2
        refine ⟨fun h => (by cases h), hR.mono ?_⟩
        rintro e W3 (⟨rfl, hJ3, hk3⟩ | ⟨rfl, hJx3⟩)
        · have hc3 : W3.cell? ⟨Bn, 0, none⟩ = some (.string r) := (World.cell?_of_block (w := wr.drewN q) (a := ⟨Bn, 0, none⟩) hk3).trans hcr
          have hf3 : W3.frozen? ⟨Bn, 0, none⟩ = false := (World.frozen?_of_block (w := wr.drewN q) (a := ⟨Bn, 0, none⟩) hk3).trans hfr
          have HJ3 := Hd hJ3
          clear hJ3 hk3 hy hR
          gi_wp2
          have e1 : (W3.setCell ⟨Bn, 0, none⟩ (.string (r.extract (i + 1) r.size))).cell? ⟨Bn, 0, none⟩ = some (.string (r.extract (i + 1) r.size)) := World.cell?_setCell_same _ _ _ hc3
          go_roundw
          case rel => exact ⟨pre ++ [(r.extract 0 i)], (r.extract (i + 1) r.size), e1, by rw [World.frozen?_setCell]; exact hf3, by have := HL.out; simp [ByteArray.size_extract]; omega, by rw [HP.out, HPE.out, if_neg HX.out]; simp, HC.out _ _ _ HJ3.out⟩
          case measure => rw [left_eq e1, left_eq hcr]; simp [ByteArray.size_extract]; omega
        · gi_wp2
          refine bodyPost_ret (results_none rfl _ _ _) rfl ?_
          exact ⟨⟨_, rfl⟩, .inr hJx3⟩
end Go.Proofs.YtafonmnfeibaiaaGreat.Pp
namespace Go.Proofs.YtafonmnfeibaiaaGreat.Pp
open Go.RowKit Go.Shelf
attribute [local go_sem] Oper.semAt_some
def kept (xs : List ByteArray) : List ByteArray := xs.filter fun x => decide (¬ x.data.toList = [46])
def lastOf (xs : List ByteArray) : ByteArray := (xs.getLast?).getD ⟨#[]⟩
theorem kept_yes (xs : List ByteArray) (x : ByteArray) (h : ¬ x.data.toList = [46]) : kept (xs ++ [x]) = kept xs ++ [x] := by simp [kept, List.filter_append, h]
theorem kept_no (xs : List ByteArray) (x : ByteArray) (h : x.data.toList = [46]) : kept (xs ++ [x]) = kept xs := by simp [kept, List.filter_append, h]
theorem kept_len (xs : List ByteArray) : (kept xs).length ≤ xs.length := List.length_filter_le _ _
theorem last_app (xs : List ByteArray) (x : ByteArray) : lastOf (xs ++ [x]) = x := by simp [lastOf]
theorem own_same {W W' : World} {base n : Nat} {v : Value} {xs : List Value} (h : W.ownsRow base 9 1 v n xs) (hs : ∀ g o, base ≤ g → W.heap[g]? = some o → W'.heap[g]? = some o) : W'.ownsRow base 9 1 v n xs := by
 obtain ⟨h1, ⟨h2, h3⟩ | ⟨g, cap, cur, h2, hb, hh, rest⟩⟩ := h
 · exact ⟨h1, .inl ⟨h2, h3⟩⟩
 · exact ⟨h1, .inr ⟨g, cap, cur, h2, hb, hs g _ hb hh, rest⟩⟩
structure SI (w0 : World) (abs dir : Bool) (lp : Obj) (xs : List ByteArray) (W : World) : Prop where
 below : Below w0.heap.size w0 W
 res : W.heap[w0.heap.size]? = some (.cells #[.bool false, .slice none 0 0, .bool false] 70 (0, 0))
 err : W.heap[w0.heap.size + 1]? = some (.cells #[.int .i64 0] 32 (0, 0))
 p : ∃ v, W.heap[w0.heap.size + 2]? = some (.cells #[.bool abs, v, .bool dir] 70 (0, 0)) ∧ W.ownsRow (w0.heap.size + 7) 9 1 v (kept xs).length ((kept xs).map .string)
 last : W.heap[w0.heap.size + 3]? = some (.cells #[.string (lastOf xs)] 9 (0, 0))
 dfr : W.heap[w0.heap.size + 5]? = some (.deferred (some []))
 loop : W.heap[w0.heap.size + 6]? = some lp
 size : w0.heap.size + 7 ≤ W.heap.size
theorem SI.turn {w0 W W' : World} {abs dir : Bool} {lp : Obj} {xs : List ByteArray} (h : SI w0 abs dir lp xs W) (hs : ∀ g o, g ≠ w0.heap.size + 4 → W.heap[g]? = some o → W'.heap[g]? = some o) (hb : Below w0.heap.size W W') : SI w0 abs dir lp xs W' where
 below := h.below.trans hb
 res := hs _ _ (by omega) h.res
 err := hs _ _ (by omega) h.err
 p := by obtain ⟨v, h1, h2⟩ := h.p; exact ⟨v, hs _ _ (by omega) h1, own_same h2 (fun g o hg => hs g o (by omega))⟩
 last := hs _ _ (by omega) h.last
 dfr := hs _ _ (by omega) h.dfr
 loop := hs _ _ (by omega) h.loop
 size := Nat.le_trans h.size hb.size
theorem SI.setOwn {w0 W : World} {abs dir : Bool} {lp : Obj} {xs : List ByteArray} (h : SI w0 abs dir lp xs W) (v : Value) : SI w0 abs dir lp xs (W.setCell ⟨w0.heap.size + 4, 0, none⟩ v) :=
 h.turn (fun g o hg ho => by rw [Below.heap_setCell _ _ _ _ hg]; exact ho) ((Below.refl _ _).setCell (by simp) _)
theorem SI.drewN {w0 W : World} {abs dir : Bool} {lp : Obj} {xs : List ByteArray} (h : SI w0 abs dir lp xs W) (q : Nat) : SI w0 abs dir lp xs (W.drewN q) :=
 h.turn (fun _ _ _ ho => ho) ⟨rfl, rfl, rfl, Nat.le_refl _, fun _ _ => rfl⟩
theorem SI.alloc {w0 W : World} {abs dir : Bool} {lp : Obj} {xs : List ByteArray} (h : SI w0 abs dir lp xs W) (o : Obj) : SI w0 abs dir lp xs (W.alloc o) :=
 h.turn (fun g o' _ ho => by rw [Below.heap_alloc _ _ _ (Array.getElem?_eq_some_iff.1 ho).1]; exact ho) ((Below.refl _ _).alloc (by have := h.size; omega) _)
theorem SI.put {w0 W : World} {abs dir : Bool} {lp : Obj} {xs : List ByteArray} (h : SI w0 abs dir lp xs W) (lp' : Obj) : SI w0 abs dir lp' xs (W.putObj (w0.heap.size + 6) lp') where
 below := h.below.trans ⟨rfl, rfl, rfl, by simp, fun k hk => World.putObj_heap_other (by omega)⟩
 res := (World.putObj_heap_other (by omega)).trans h.res
 err := (World.putObj_heap_other (by omega)).trans h.err
 p := by
  obtain ⟨v, h1, h2⟩ := h.p
  exact ⟨v, (World.putObj_heap_other (by omega)).trans h1, own_same h2 (fun g o hg ho => (World.putObj_heap_other (by omega)).trans ho)⟩
 last := (World.putObj_heap_other (by omega)).trans h.last
 dfr := (World.putObj_heap_other (by omega)).trans h.dfr
 loop := World.putObj_heap_same (by have := h.size; omega)
 size := by rw [World.putObj_size]; exact h.size
theorem hZ {w : World} {b : Nat} {C : Array Value} {T : TypeId} {f : Nat × Nat} (h : w.heap[b]? = some (.cells C T f)) (i : Nat) : w.cell? ⟨b, i, none⟩ = C[i]? := by simp [World.cell?, h]
theorem heap_free {w : World} {b : Nat} {C : Array Value} {T : TypeId} (h : w.heap[b]? = some (.cells C T (0, 0))) (i : Nat) : w.frozen? ⟨b, i, none⟩ = false := by simp [World.frozen?, h]
theorem mk_names (s : ByteArray) (w : World) :
  Calls Tryz.prog 75 #[.string s] w fun e w' => e = .returned (.func (.func 110) #[] #[.pointer (some ⟨w.heap.size, 0, none⟩)]) ∧ w' = w.alloc (.cells #[.string s] 9) := by
 go_enter Tryz.func75, Tryz.ntmps75
 go_wp2
 go_ret
 exact ⟨rfl, rfl⟩
def splitPost (s : ByteArray) (w : World) (e : Ending) (w' : World) : Prop :=
 ∃ (abs dir : Bool) (v : Value) (l : List ByteArray) (err : Int), e = .returned (.tuple #[.agg #[.bool abs, v, .bool dir], .int .i64 err]) ∧ w'.ownsRow w.heap.size 9 1 v l.length (l.map .string) ∧ Below w.heap.size w w' ∧
  splitS s.data.toList = (abs, dir, l.map (fun x : ByteArray => x.data.toList), err)
theorem range_names {g : Operand} {ps : Array Tmp} {assign body : Code} {Q : Exit → Act → World → Prop} {a : Act} (W : World) (ptr : Value) (hg : a.eval g = .func (.func 110) #[] #[ptr])
  (hcall : ∀ fn : FuncId, CallsIn Fence.wide 2 Tryz.prog 110 #[.func (.yield (W.heap.size + 1)) #[] #[], ptr]
    ((W.alloc (.deferred (some []))).alloc (.loop { state := .ready, pending := none, fn, tmps := a.tmps, params := ps, assign, body, defers := W.heap.size }))
    (rangePost Fence.wide 3 Tryz.prog (W.heap.size + 1) Q { a with defers := [{ target := .collected W.heap.size, args := #[] }] ++ a.defers })) :
  (Code.rangeFunc g ps assign body).wpIn Fence.wide 3 Tryz.prog Q a W := by
 refine wpIn_rangeFunc (fun fn _ => ?_)
 obtain ⟨W1, hW1⟩ : ∃ W1, (W.alloc (.deferred (some []))).alloc (.loop { state := .ready, pending := none, fn, tmps := a.tmps, params := ps, assign, body, defers := W.heap.size }) = W1 := ⟨_, rfl⟩
 have hc := hcall fn
 rw [hW1] at hc
 refine ⟨W.heap.size + 1, [{ target := .collected W.heap.size, args := #[] }], W1, { target := .fn (.func 110) #[ptr], args := #[.func (.yield (W.heap.size + 1)) #[] #[]] }, W1, 110, #[.func (.yield (W.heap.size + 1)) #[] #[], ptr], W1, ?_, ?_, fun _ _ => trivial, ?_, fun h => (by cases h), hc⟩
 · rw [← hW1]; exact run_enterLoop_outer _ _ _ _ _
 · simp only [resolve, hg]
   simp [go_sem]
 · have he := enters_of (P := Tryz.prog) Tryz.func110 (by kernel_rfl) rfl
   simp [invoke, go_sem, he]
theorem below_put {n : Nat} {w W : World} {l : Nat} {o : Obj} (h : Below n w W) (hl : n ≤ l) : Below n w (W.putObj l o) :=
 h.trans ⟨rfl, rfl, rfl, by simp, fun k hk => World.putObj_heap_other (by omega)⟩
theorem push7 (h : Array Obj) (a b c d e f g : Obj) :
  let H := ((((((h.push a).push b).push c).push d).push e).push f).push g
  H[h.size]? = some a ∧ H[h.size + 1]? = some b ∧ H[h.size + 2]? = some c ∧ H[h.size + 3]? = some d ∧ H[h.size + 4]? = some e ∧ H[h.size + 5]? = some f ∧ H[h.size + 6]? = some g := by
 simp only [Array.getElem?_push, Array.size_push]
 refine ⟨?_, ?_, ?_, ?_, ?_, ?_, ?_⟩ <;> repeat (first | rw [if_pos trivial] | rw [if_neg (by omega)] | rw [if_pos (by omega)])
def Stop (w0 : World) (s : ByteArray) (r : Loop) (W : World) : Prop :=
 Below w0.heap.size w0 W ∧ W.heap[w0.heap.size]? = some (.cells #[.bool false, .slice none 0 0, .bool false] 70 (0, 0)) ∧ W.heap[w0.heap.size + 1]? = some (.cells #[.int .i64 10] 32 (0, 0)) ∧
 W.heap[w0.heap.size + 5]? = some (.deferred (some [])) ∧ W.heap[w0.heap.size + 6]? = some (.loop { r with state := .done, pending := some .ret }) ∧ (∃ x ∈ parts s.data.toList, 14 < x.length)
def Short (xs : List ByteArray) : Prop := ∀ x ∈ xs, x.size ≤ 14
def roundR (w0 : World) (s : ByteArray) (abs dir : Bool) (r : Loop) (pre : List ByteArray) (x : ByteArray) (W : World) (e : Ending) (W' : World) : Prop :=
 (e = .returned (.bool true) ∧ (SI w0 abs dir (.loop r) (pre ++ [x]) W' ∧ Short (pre ++ [x])) ∧ W'.heap[w0.heap.size + 4]? = W.heap[w0.heap.size + 4]?) ∨ (e = .returned (.bool false) ∧ Stop w0 s r W')
theorem iter_calls (w0 : World) (s : ByteArray) (hs : s.size ≤ 128) (abs dir : Bool) (r : Loop) (hp : r.params.size = 1) (W : World) (h : SI w0 abs dir (.loop r) [] ((W.alloc (.deferred (some []))).alloc (.loop r)))
  (hc : ((W.alloc (.deferred (some []))).alloc (.loop r)).heap[w0.heap.size + 4]? = some (.cells #[.string s] 9 (0, 0)))
  (hR : ∀ pre x W, SI w0 abs dir (.loop r) pre W → Short pre → x.data.toList ∈ parts s.data.toList → x.size ≤ 128 → pre.length < 128 →
    RoundIn Fence.wide 1 Tryz.prog (w0.heap.size + 6) r.fn ((r.params.zip #[.string x]).foldl (fun t (p, v) => t.setIfInBounds p v) r.tmps) r.assign r.body W (roundR w0 s abs dir r pre x W)) :
  CallsIn Fence.wide 2 Tryz.prog 110 #[.func (.yield (w0.heap.size + 6)) #[] #[], .pointer (some ⟨w0.heap.size + 4, 0, none⟩)] ((W.alloc (.deferred (some []))).alloc (.loop r)) fun e W' => (∃ v, e = .returned v) ∧
   ((∃ xs, xs.map (fun x : ByteArray => x.data.toList) = parts s.data.toList ∧ SI w0 abs dir (.loop r) xs W' ∧ Short xs) ∨ Stop w0 s r W') := by
 refine names_in 2 (w0.heap.size + 6) (w0.heap.size + 4) s (fun xs W => SI w0 abs dir (.loop r) xs W ∧ Short xs) (Stop w0 s r) (by omega) ?_ (fun pre W v hh => ⟨hh.1.setOwn v, hh.2⟩) (fun pre W q hh => ⟨hh.1.drewN q, hh.2⟩) _ (hZ hc 0) (heap_free hc 0) ⟨h, fun x hx => by cases hx⟩
 intro pre x W hh hx hsz hlen
 exact ⟨r.fn, _, r.assign, r.body, run_yield hh.1.loop (by rw [hp]; rfl), hR pre x W hh.1 hh.2 hx (by omega) (by omega)⟩
theorem short_app {pre : List ByteArray} {x : ByteArray} (h : Short pre) (hx : ¬ 14 < x.size) : Short (pre ++ [x]) := fun y hy => by
 rcases List.mem_append.1 hy with h1 | h1
 · exact h y h1
 · have : y = x := by simpa using h1
   rw [this]; omega
theorem begin_round {w0 W : World} {abs dir : Bool} {r : Loop} {pre : List ByteArray} (h : SI w0 abs dir (.loop r) pre W) (hr : r.state = .ready) {K : World → Prop}
  (hK : ∀ W3, SI w0 abs dir (.loop { r with state := .busy }) pre W3 → W3.heap[w0.heap.size + 4]? = W.heap[w0.heap.size + 4]? → K W3) : ∃ w₂, (Instr.beginRound (w0.heap.size + 6)).run Tryz.prog W = .ok () w₂ ∧ K w₂ :=
 ⟨_, run_beginRound h.loop hr, hK _ (h.put _) (World.putObj_heap_other (by omega))⟩
theorem set_same {w : World} {b i : Nat} {C : Array Value} {T : TypeId} {f : Nat × Nat} (h : w.heap[b]? = some (.cells C T f)) (v : Value) : (w.setCell ⟨b, i, none⟩ v).heap[b]? = some (.cells (C.setIfInBounds i v) T f) := by
 simp [World.setCell, Array.getElem?_modify, h]
theorem sX {w : World} {b c i : Nat} {o : Obj} (h : w.heap[c]? = some o) (v : Value) (hne : c ≠ b) : (w.setCell ⟨b, i, none⟩ v).heap[c]? = some o := by
 rw [Below.heap_setCell _ _ _ _ hne]; exact h
theorem SI.stopped {w0 W2 W : World} {s : ByteArray} {abs dir : Bool} {r : Loop} {pre : List ByteArray} {x : ByteArray} (h : SI w0 abs dir (.loop { r with state := .busy }) pre W) (hx : x.data.toList ∈ parts s.data.toList) (hl : 14 < x.size) :
  ∃ v w', (Instr.endRound (w0.heap.size + 6) (some .ret)).run Tryz.prog ((((W.setCell ⟨w0.heap.size, 0, none⟩ (.bool false)).setCell ⟨w0.heap.size, 1, none⟩ (.slice none 0 0)).setCell ⟨w0.heap.size, 2, none⟩ (.bool false)).setCell ⟨w0.heap.size + 1, 0, none⟩ (.int .i64 10)) = .ok v w' ∧ roundR w0 s abs dir r pre x W2 (.returned v) w' := by
 obtain ⟨W5, hW5⟩ : ∃ W5, ((((W.setCell ⟨w0.heap.size, 0, none⟩ (.bool false)).setCell ⟨w0.heap.size, 1, none⟩ (.slice none 0 0)).setCell ⟨w0.heap.size, 2, none⟩ (.bool false)).setCell ⟨w0.heap.size + 1, 0, none⟩ (.int .i64 10)) = W5 := ⟨_, rfl⟩
 have b5 : Below w0.heap.size W W5 := by rw [← hW5]; exact ((((Below.refl _ _).setCell (by simp) _).setCell (by simp) _).setCell (by simp) _).setCell (by simp) _
 have r5 : W5.heap[w0.heap.size]? = some (.cells #[.bool false, .slice none 0 0, .bool false] 70 (0, 0)) := by
  rw [← hW5]; exact sX (set_same (set_same (set_same h.res _) _) _) _ (by omega)
 have e5 : W5.heap[w0.heap.size + 1]? = some (.cells #[.int .i64 10] 32 (0, 0)) := by
  rw [← hW5]; exact set_same (sX (sX (sX h.err _ (by omega)) _ (by omega)) _ (by omega)) _
 have d5 : W5.heap[w0.heap.size + 5]? = some (.deferred (some [])) := by
  rw [← hW5]; exact sX (sX (sX (sX h.dfr _ (by omega)) _ (by omega)) _ (by omega)) _ (by omega)
 have l5 : W5.heap[w0.heap.size + 6]? = some (.loop { r with state := .busy }) := by
  rw [← hW5]; exact sX (sX (sX (sX h.loop _ (by omega)) _ (by omega)) _ (by omega)) _ (by omega)
 rw [hW5]
 refine ⟨_, _, run_endRound (some .ret) l5, .inr ⟨rfl, h.below.trans (b5.trans ⟨rfl, rfl, rfl, by simp, fun k hk => World.putObj_heap_other (by omega)⟩), (World.putObj_heap_other (by omega)).trans r5, (World.putObj_heap_other (by omega)).trans e5, (World.putObj_heap_other (by omega)).trans d5, ?_, x.data.toList, hx, by rw [sz]; exact hl⟩⟩
 exact World.putObj_heap_same (by obtain ⟨h1, _⟩ := Array.getElem?_eq_some_iff.1 l5; exact h1)
theorem SI.goes {w0 W2 W : World} {s : ByteArray} {abs dir : Bool} {r : Loop} {pre : List ByteArray} {x : ByteArray} (h : SI w0 abs dir (.loop { r with state := .busy }) (pre ++ [x]) W) (hr : r.state = .ready) (hp : r.pending = none) (hsh : Short (pre ++ [x])) (hb : W.heap[w0.heap.size + 4]? = W2.heap[w0.heap.size + 4]?) :
  ∃ v w', (Instr.endRound (w0.heap.size + 6) none).run Tryz.prog W = .ok v w' ∧ roundR w0 s abs dir r pre x W2 (.returned v) w' := by
 refine ⟨_, _, run_endRound none h.loop, .inl ⟨rfl, ⟨?_, hsh⟩, (World.putObj_heap_other (by omega)).trans hb⟩⟩
 have := h.put (.loop r)
 obtain ⟨st, pe, f1, f2, f3, f4, f5, f6⟩ := r
 simp only at hr hp
 subst hr hp
 exact this
theorem SI.lastSet {w0 W : World} {abs dir : Bool} {lp : Obj} {pre : List ByteArray} {x : ByteArray} (h : SI w0 abs dir lp pre W) (hk : kept (pre ++ [x]) = kept pre) : SI w0 abs dir lp (pre ++ [x]) (W.setCell ⟨w0.heap.size + 3, 0, none⟩ (.string x)) where
 below := h.below.setCell (by simp) _
 res := sX h.res _ (by omega)
 err := sX h.err _ (by omega)
 p := by
  obtain ⟨v, h1, h2⟩ := h.p
  rw [hk]
  exact ⟨v, sX h1 _ (by omega), own_same h2 (fun g o hg ho => sX ho _ (by omega))⟩
 last := by rw [last_app]; exact set_same h.last _
 dfr := sX h.dfr _ (by omega)
 loop := sX h.loop _ (by omega)
 size := by simpa [World.setCell] using h.size
theorem SI.own2 {w0 W : World} {v : Value} {k : Nat} {xs : List Value} (h2 : W.ownsRow (w0.heap.size + 7) 9 1 v k xs) (x : ByteArray) : (W.setCell ⟨w0.heap.size + 3, 0, none⟩ (.string x)).ownsRow (w0.heap.size + 7) 9 1 v k xs :=
 own_same h2 (fun g o hg ho => sX ho _ (by omega))
theorem cell_one_set (W : World) (a : Addr) (u x : Value) : ∀ j y, [x][j]? = some y → ((W.setCell a u).alloc (.cells #[x] 9)).cell? ((⟨W.heap.size, 0, none⟩ : Addr).add j) = some y := by
 intro j y hj
 have h := cell_one_new (W.setCell a u) x 9 j y hj
 have e : (W.setCell a u).heap.size = W.heap.size := by simp [World.setCell]
 rw [e] at h; exact h
theorem SI.appended {w0 W w1 : World} {abs dir : Bool} {lp : Obj} {pre : List ByteArray} {x : ByteArray} {v v' : Value} (h : SI w0 abs dir lp pre W) (hk : kept (pre ++ [x]) = kept pre ++ [x])
  (hp : W.heap[w0.heap.size + 2]? = some (.cells #[.bool abs, v, .bool dir] 70 (0, 0))) (hv : ∀ k, v.ownBlock = some k → w0.heap.size + 7 ≤ k)
  (hg : ((W.setCell ⟨w0.heap.size + 3, 0, none⟩ (.string x)).alloc (.cells #[.string x] 9)).grownBy w1 v.ownBlock)
  (ho : w1.ownsRow (w0.heap.size + 7) 9 1 v' ((kept pre).length + 1) ((kept pre).map .string ++ [.string x])) :
  SI w0 abs dir lp (pre ++ [x]) (w1.setCell ⟨w0.heap.size + 2, 1, none⟩ v') ∧ (w1.setCell ⟨w0.heap.size + 2, 1, none⟩ v').heap[w0.heap.size + 4]? = W.heap[w0.heap.size + 4]? := by
 have hz := h.size
 have hsz : ((W.setCell ⟨w0.heap.size + 3, 0, none⟩ (.string x)).alloc (.cells #[.string x] 9)).heap.size = W.heap.size + 1 := by simp [World.setCell]
 have e3 : (W.setCell ⟨w0.heap.size + 3, 0, none⟩ (.string x)).heap.size = W.heap.size := by simp [World.setCell]
 have old : ∀ k, k < w0.heap.size + 7 → w1.heap[k]? = (W.setCell ⟨w0.heap.size + 3, 0, none⟩ (.string x)).heap[k]? := fun k hk => by
  rw [hg.block k (by rw [hsz]; omega) (fun e => by have := hv k e.symm; omega), Below.heap_alloc _ _ _ (by rw [e3]; omega)]
 have keep : ∀ k o, k < w0.heap.size + 7 → k ≠ w0.heap.size + 3 → W.heap[k]? = some o → w1.heap[k]? = some o := fun k o hk h3 ho => by
  rw [old k hk]; exact sX ho _ h3
 have hb1 : Below w0.heap.size W w1 := ⟨hg.os, hg.tape, hg.output, by have := hg.size; rw [hsz] at this; omega, fun k hk => by rw [old k (by omega)]; exact Below.heap_setCell _ _ _ _ (by simp; omega)⟩
 refine ⟨⟨h.below.trans (hb1.setCell (by simp) _), sX (keep _ _ (by omega) (by omega) h.res) _ (by omega), sX (keep _ _ (by omega) (by omega) h.err) _ (by omega), ?_, ?_, sX (keep _ _ (by omega) (by omega) h.dfr) _ (by omega), sX (keep _ _ (by omega) (by omega) h.loop) _ (by omega), ?_⟩, ?_⟩
 · refine ⟨v', set_same (keep _ _ (by omega) (by omega) hp) _, ?_⟩
   rw [hk]
   have h9 : w1.ownsRow (w0.heap.size + 7) 9 1 v' (kept pre ++ [x]).length ((kept pre ++ [x]).map .string) := by simpa using ho
   exact own_same h9 (fun g o hg ho => sX ho _ (by omega))
 · rw [last_app]
   refine sX ?_ _ (by omega)
   rw [old _ (by omega)]; exact set_same h.last _
 · have := hg.size; rw [hsz] at this
   simp [World.setCell]; omega
 · rw [Below.heap_setCell _ _ _ _ (by simp), old _ (by omega)]
   exact Below.heap_setCell _ _ _ _ (by simp)
theorem p_kept {w0 W w1 : World} {abs dir : Bool} {v : Value} {x : ByteArray} (hp : W.heap[w0.heap.size + 2]? = some (.cells #[.bool abs, v, .bool dir] 70 (0, 0))) (hz : w0.heap.size + 7 ≤ W.heap.size) (hv : ∀ k, v.ownBlock = some k → w0.heap.size + 7 ≤ k)
  (hg : ((W.setCell ⟨w0.heap.size + 3, 0, none⟩ (.string x)).alloc (.cells #[.string x] 9)).grownBy w1 v.ownBlock) :
  w1.cell? ⟨w0.heap.size + 1 + 1, 1, none⟩ = some v ∧ w1.frozen? ⟨w0.heap.size + 1 + 1, 1, none⟩ = false := by
 have e3 : (W.setCell ⟨w0.heap.size + 3, 0, none⟩ (.string x)).heap.size = W.heap.size := by simp [World.setCell]
 have h1 : w1.heap[w0.heap.size + 2]? = some (.cells #[.bool abs, v, .bool dir] 70 (0, 0)) := by
  rw [hg.block _ (by simp [World.setCell]; omega) (fun e => by have := hv _ e.symm; omega), Below.heap_alloc _ _ _ (by rw [e3]; omega)]
  exact sX hp _ (by omega)
 exact ⟨hZ h1 1, heap_free h1 1⟩
theorem end_loop {w0 W : World} {abs dir : Bool} {r : Loop} {xs : List ByteArray} (h : SI w0 abs dir (.loop r) xs W) (hr : r.state = .ready) (hp : r.pending = none) {K : Option Code → World → Prop}
  (hK : ∀ W4, SI w0 abs dir (.loop { r with state := .exhausted }) xs W4 → K none W4) : ∃ jump w₄, (Instr.endLoop (w0.heap.size + 6)).run Tryz.prog W = .ok jump w₄ ∧ K jump w₄ :=
 ⟨none, _, (run_endLoop h.loop (by rw [hr]; simp)).trans (by rw [hp]), hK _ (h.put _)⟩
theorem last_parts {xs : List ByteArray} {l : List Bytes} (h : xs.map (fun x : ByteArray => x.data.toList) = l) : l.getLast?.getD [] = (lastOf xs).data.toList := by
 rw [← h, List.getLast?_map, lastOf]
 cases xs.getLast? <;> rfl
theorem kept_parts {xs : List ByteArray} {l : List Bytes} (h : xs.map (fun x : ByteArray => x.data.toList) = l) : l.filter (fun x => decide (¬ x = [46])) = (kept xs).map (fun x : ByteArray => x.data.toList) := by
 rw [← h, kept, List.filter_map]; rfl
theorem short_parts {xs : List ByteArray} {l : List Bytes} (h : xs.map (fun x : ByteArray => x.data.toList) = l) (hs : Short xs) : ¬ ∃ x ∈ l, 14 < x.length := by
 rintro ⟨x, hx, hl⟩
 rw [← h] at hx
 obtain ⟨y, hy, rfl⟩ := List.mem_map.1 hx
 have := hs y hy
 rw [sz] at hl; omega
theorem plain_okb (l : Bytes) : plainB l = l.all okb := rfl
theorem split_ok {s : ByteArray} (h0 : ¬ s.data.toList = []) (hs : s.size ≤ 128) {xs : List ByteArray} (h : xs.map (fun x : ByteArray => x.data.toList) = parts s.data.toList) (hsh : Short xs) (hp : plainB s.data.toList = true) :
  splitS s.data.toList = (Lib.hasPrefix s.data.toList [47], Lib.hasSuffix s.data.toList [47] || (((lastOf xs).data.toList == [46]) || ((lastOf xs).data.toList == [46, 46])), (kept xs).map (fun x : ByteArray => x.data.toList), 0) := by
 have e1 : ¬ (128 < s.data.toList.length ∨ ∃ x ∈ parts s.data.toList, 14 < x.length) := by
  rintro (h1 | h1)
  · rw [sz] at h1; omega
  · exact short_parts h hsh h1
 rw [splitS, if_neg h0, if_neg e1, if_neg (by rw [← plain_okb, hp]; simp), last_parts h, kept_parts h]
theorem split_bad {s : ByteArray} (h0 : ¬ s.data.toList = []) (hs : s.size ≤ 128) {xs : List ByteArray} (h : xs.map (fun x : ByteArray => x.data.toList) = parts s.data.toList) (hsh : Short xs) (hp : plainB s.data.toList = false) :
  splitS s.data.toList = (false, false, [], 1) := by
 have e1 : ¬ (128 < s.data.toList.length ∨ ∃ x ∈ parts s.data.toList, 14 < x.length) := by
  rintro (h1 | h1)
  · rw [sz] at h1; omega
  · exact short_parts h hsh h1
 rw [splitS, if_neg h0, if_neg e1, if_pos (by rw [← plain_okb, hp])]
theorem split_long {b : Bytes} (h0 : ¬ b = []) (h : 128 < b.length ∨ ∃ x ∈ parts b, 14 < x.length) : splitS b = (false, false, [], 10) := by
 rw [splitS, if_neg h0, if_pos h]
theorem leave12 {T : Array Value} {W5 : World} (n0 : Nat) {A D : Bool} {V : Value} {E : Int} (hT2 : T[2]? = some (.pointer (some ⟨n0, 0, none⟩))) (hT3 : T[3]? = some (.pointer (some ⟨n0 + 1, 0, none⟩)))
  (hres : W5.heap[n0]? = some (.cells #[.bool A, V, .bool D] 70 (0, 0))) (herr : W5.heap[n0 + 1]? = some (.cells #[.int .i64 E] 32 (0, 0))) (hdfr : W5.heap[n0 + 5]? = some (.deferred (some []))) {R : Ending → World → Prop}
  (hV : ∃ a n c, V = .slice a n c)
  (hR : R (.returned (.tuple #[.agg #[.bool A, V, .bool D], .int .i64 E])) (W5.putObj (n0 + 5) (.deferred none))) :
  bodyPostM Fence.wide 3 Tryz.prog Tryz.f32 R .ret { tmps := T, defers := [{ target := .collected (n0 + 5), args := #[] }] } W5 := by
 obtain ⟨a, n, c, rfl⟩ := hV
 refine ⟨by simp, .inl ⟨_, _, rfl, run_takeDeferred hdfr, ?_⟩⟩
 obtain ⟨W6, hW6⟩ : ∃ W6, W5.putObj (n0 + 5) (.deferred none) = W6 := ⟨_, rfl⟩
 have h0 : W6.heap[n0]? = some (.cells #[.bool A, .slice a n c, .bool D] 70 (0, 0)) := by rw [← hW6]; exact (World.putObj_heap_other (by omega)).trans hres
 have h1 : W6.heap[n0 + 1]? = some (.cells #[.int .i64 E] 32 (0, 0)) := by rw [← hW6]; exact (World.putObj_heap_other (by omega)).trans herr
 rw [hW6] at hR ⊢
 have c0 : W6.cell? ⟨n0, 0, none⟩ = some (.bool A) := hZ h0 0
 have c1 : W6.cell? ⟨n0, 1, none⟩ = some (.slice a n c) := hZ h0 1
 have c2 : W6.cell? ⟨n0, 2, none⟩ = some (.bool D) := hZ h0 2
 have c3 : W6.cell? ⟨n0 + 1, 0, none⟩ = some (.int .i64 E) := hZ h1 0
 exact ⟨_, by simp [results, Tryz.results32, go_sem, hT2, hT3, c0, c1, c2, c3], hR⟩
theorem own_base {w : World} {b b' n : Nat} {v : Value} {xs : List Value} (h : w.ownsRow b 9 1 v n xs) (hb : b' ≤ b) : w.ownsRow b' 9 1 v n xs := by
 obtain ⟨h1, h2 | ⟨g, cap, cur, h2, h3, rest⟩⟩ := h
 · exact ⟨h1, .inl h2⟩
 · exact ⟨h1, .inr ⟨g, cap, cur, h2, by omega, rest⟩⟩
theorem SI.final {w0 W : World} {s : ByteArray} {abs dir : Bool} {lp : Obj} {xs : List ByteArray} (h : SI w0 abs dir lp xs W) {V : Value} (hV : ∃ a n c, V = .slice a n c) (hown : W.ownsRow (w0.heap.size + 7) 9 1 V (kept xs).length ((kept xs).map .string)) {T : Array Value} (hT2 : T[2]? = some (.pointer (some ⟨w0.heap.size, 0, none⟩))) (hT3 : T[3]? = some (.pointer (some ⟨w0.heap.size + 1, 0, none⟩))) (D : Bool)
  (hs : splitS s.data.toList = (abs, D, (kept xs).map (fun x : ByteArray => x.data.toList), 0)) :
  bodyPostM Fence.wide 3 Tryz.prog Tryz.f32 (splitPost s w0) .ret { tmps := T, defers := [{ target := .collected (w0.heap.size + 5), args := #[] }] }
   (((((W.setCell ⟨w0.heap.size + 2, 2, none⟩ (.bool D)).setCell ⟨w0.heap.size, 0, none⟩ (.bool abs)).setCell ⟨w0.heap.size, 1, none⟩ V).setCell ⟨w0.heap.size, 2, none⟩ (.bool D)).setCell ⟨w0.heap.size + 1, 0, none⟩ (.int .i64 0)) := by
 obtain ⟨W5, hW5⟩ : ∃ W5, (((((W.setCell ⟨w0.heap.size + 2, 2, none⟩ (.bool D)).setCell ⟨w0.heap.size, 0, none⟩ (.bool abs)).setCell ⟨w0.heap.size, 1, none⟩ V).setCell ⟨w0.heap.size, 2, none⟩ (.bool D)).setCell ⟨w0.heap.size + 1, 0, none⟩ (.int .i64 0)) = W5 := ⟨_, rfl⟩
 have other : ∀ g o, g ≠ w0.heap.size → g ≠ w0.heap.size + 1 → g ≠ w0.heap.size + 2 → W.heap[g]? = some o → W5.heap[g]? = some o := fun g o n0 n1 n2 ho => by
  rw [← hW5]; exact sX (sX (sX (sX (sX ho _ n2) _ n0) _ n0) _ n0) _ n1
 have b5 : Below w0.heap.size W W5 := by rw [← hW5]; exact (((((Below.refl _ _).setCell (by simp) _).setCell (by simp) _).setCell (by simp) _).setCell (by simp) _).setCell (by simp) _
 have r5 : W5.heap[w0.heap.size]? = some (.cells #[.bool abs, V, .bool D] 70 (0, 0)) := by
  rw [← hW5]; exact sX (set_same (set_same (set_same (sX h.res _ (by omega)) _) _) _) _ (by omega)
 have e5 : W5.heap[w0.heap.size + 1]? = some (.cells #[.int .i64 0] 32 (0, 0)) := by
  rw [← hW5]; exact set_same (sX (sX (sX (sX h.err _ (by omega)) _ (by omega)) _ (by omega)) _ (by omega)) _
 rw [hW5]
 refine leave12 w0.heap.size hT2 hT3 r5 e5 (other _ _ (by omega) (by omega) (by omega) h.dfr) hV ⟨abs, D, V, kept xs, 0, rfl, ?_, h.below.trans (b5.trans ⟨rfl, rfl, rfl, by simp, fun k hk => World.putObj_heap_other (by omega)⟩), hs⟩
 exact own_base (own_same hown (fun g o hg ho => (World.putObj_heap_other (by omega)).trans (other g o (by omega) (by omega) (by omega) ho))) (by omega)
theorem SI.failed {w0 W : World} {s : ByteArray} {abs dir : Bool} {lp : Obj} {xs : List ByteArray} (h : SI w0 abs dir lp xs W) {T : Array Value} (hT2 : T[2]? = some (.pointer (some ⟨w0.heap.size, 0, none⟩))) (hT3 : T[3]? = some (.pointer (some ⟨w0.heap.size + 1, 0, none⟩)))
  (hs : splitS s.data.toList = (false, false, [], 1)) :
  bodyPostM Fence.wide 3 Tryz.prog Tryz.f32 (splitPost s w0) .ret { tmps := T, defers := [{ target := .collected (w0.heap.size + 5), args := #[] }] }
   ((((W.setCell ⟨w0.heap.size, 0, none⟩ (.bool false)).setCell ⟨w0.heap.size, 1, none⟩ (.slice none 0 0)).setCell ⟨w0.heap.size, 2, none⟩ (.bool false)).setCell ⟨w0.heap.size + 1, 0, none⟩ (.int .i64 1)) := by
 obtain ⟨W5, hW5⟩ : ∃ W5, ((((W.setCell ⟨w0.heap.size, 0, none⟩ (.bool false)).setCell ⟨w0.heap.size, 1, none⟩ (.slice none 0 0)).setCell ⟨w0.heap.size, 2, none⟩ (.bool false)).setCell ⟨w0.heap.size + 1, 0, none⟩ (.int .i64 1)) = W5 := ⟨_, rfl⟩
 have b5 : Below w0.heap.size W W5 := by rw [← hW5]; exact ((((Below.refl _ _).setCell (by simp) _).setCell (by simp) _).setCell (by simp) _).setCell (by simp) _
 have r5 : W5.heap[w0.heap.size]? = some (.cells #[.bool false, .slice none 0 0, .bool false] 70 (0, 0)) := by
  rw [← hW5]; exact sX (set_same (set_same (set_same h.res _) _) _) _ (by omega)
 have e5 : W5.heap[w0.heap.size + 1]? = some (.cells #[.int .i64 1] 32 (0, 0)) := by
  rw [← hW5]; exact set_same (sX (sX (sX h.err _ (by omega)) _ (by omega)) _ (by omega)) _
 have d5 : W5.heap[w0.heap.size + 5]? = some (.deferred (some [])) := by
  rw [← hW5]; exact sX (sX (sX (sX h.dfr _ (by omega)) _ (by omega)) _ (by omega)) _ (by omega)
 rw [hW5]
 exact leave12 w0.heap.size hT2 hT3 r5 e5 d5 ⟨none, 0, 0, rfl⟩ ⟨false, false, .slice none 0 0, [], 1, rfl, ⟨rfl, .inl ⟨rfl, rfl⟩⟩, h.below.trans (b5.trans ⟨rfl, rfl, rfl, by simp, fun k hk => World.putObj_heap_other (by omega)⟩), hs⟩
theorem split_main (s : ByteArray) (w : World) (h0 : ¬ s.data.toList = []) (hs : s.size ≤ 128) : Calls Tryz.prog 32 #[.string s] w (splitPost s w) := by
 refine (callsIn_wide (n := 3)).1 (callsIn_of_wp_marks Tryz.func32 rfl trivial ?_ rfl)
 simp only [Tryz.ntmps32, List.size_toArray, List.length_cons, List.length_nil, Nat.reduceAdd, Nat.reduceSub, Array.replicate_succ, Array.replicate_zero, List.push_toArray, List.append_toArray, List.nil_append, List.cons_append]
 have h1 : s.toList.isEmpty = false := by rw [tQ]; cases hh : s.data.toList with | nil => exact absurd hh h0 | cons => rfl
 have hs1 : (s.size : Int) ≤ 128 := by omega
 have H0 := Hd h0
 obtain ⟨i0, hi, hz0, hz1, hz2⟩ := info_parts info9
 clear h0
 gi_wp2_with fail
 refine ⟨trivial, ?_⟩
 refine (callsIn_wide.2 (Tryz.strings_HasPrefix _ _ _)).mono ?_
 rintro e w' ⟨rfl, rfl⟩
 gi_wp2_with fail
 refine ⟨trivial, ?_⟩
 refine (callsIn_wide.2 (Tryz.strings_HasSuffix _ _ _ (by omega))).mono ?_
 rintro e w' ⟨rfl, rfl⟩
 gi_wp2_with fail
 refine ⟨trivial, ?_⟩
 refine (callsIn_wide.2 (mk_names _ _)).mono ?_
 rintro e w' ⟨rfl, rfl⟩
 gi_wp2_with fail
 obtain ⟨W, hW⟩ : ∃ W, (((((w.alloc (.cells #[.bool false, .slice none 0 0, .bool false] 70)).alloc (.cells #[.int .i64 0] 32)).alloc (.cells #[.bool (Lib.hasPrefix s.data.toList [47]), .slice none 0 0, .bool (Lib.hasSuffix s.data.toList [47])] 70)).alloc (.cells #[.string ⟨#[]⟩] 9)).alloc (.cells #[.string s] 9)) = W := ⟨_, rfl⟩
 have hWs : W.heap.size = w.heap.size + 5 := by rw [← hW]; simp
 rw [hW]
 refine range_names W (.pointer (some ⟨w.heap.size + 4, 0, none⟩)) rfl (fun fn => ?_)
 rw [hWs]
 refine (iter_calls w s hs (Lib.hasPrefix s.data.toList [47]) (Lib.hasSuffix s.data.toList [47]) _ ?_ _ ?_ ?_ ?_).mono ?_
 rotate_left
 · rw [← hW]
   have h7 := push7 w.heap
   refine ⟨(((((((Below.refl _ _).alloc (Nat.le_refl _) _).alloc (by simp) _).alloc (by simp; omega) _).alloc (by simp; omega) _).alloc (by simp; omega) _).alloc (by simp; omega) _).alloc (by simp; omega) _, ?_, ?_, ⟨.slice none 0 0, ?_, ⟨rfl, .inl ⟨rfl, rfl⟩⟩⟩, ?_, ?_, ?_, by simp⟩
   · exact (h7 _ _ _ _ _ _ _).1
   · exact (h7 _ _ _ _ _ _ _).2.1
   · exact (h7 _ _ _ _ _ _ _).2.2.1
   · exact (h7 _ _ _ _ _ _ _).2.2.2.1
   · exact (h7 _ _ _ _ _ _ _).2.2.2.2.2.1
   · exact (h7 _ _ _ _ _ _ _).2.2.2.2.2.2
 · rw [← hW]
   exact (push7 w.heap _ _ _ _ _ _ _).2.2.2.2.1
 · intro pre x W2 hSI hsh hx hx1 hlen
   refine roundIn_of_wpIn trivial ?_
   dsimp only
   gi_wp2
   refine begin_round hSI rfl (fun W3 hS3 hb3 => ?_)
   obtain ⟨v, hpv, hown⟩ := hS3.p
   have r0 : W3.cell? ⟨w.heap.size, 0, none⟩ = some (.bool false) := hZ hS3.res 0
   have r1 : W3.cell? ⟨w.heap.size, 1, none⟩ = some (.slice none 0 0) := hZ hS3.res 1
   have r2 : W3.cell? ⟨w.heap.size, 2, none⟩ = some (.bool false) := hZ hS3.res 2
   have rf : ∀ i, W3.frozen? ⟨w.heap.size, i, none⟩ = false := heap_free hS3.res
   have e0 : W3.cell? ⟨w.heap.size + 1, 0, none⟩ = some (.int .i64 0) := hZ hS3.err 0
   have ef : W3.frozen? ⟨w.heap.size + 1, 0, none⟩ = false := heap_free hS3.err 0
   have p1 : W3.cell? ⟨w.heap.size + 1 + 1, 1, none⟩ = some v := hZ hpv 1
   have pf : W3.frozen? ⟨w.heap.size + 1 + 1, 1, none⟩ = false := heap_free hpv 1
   have l0 : W3.cell? ⟨w.heap.size + 1 + 1 + 1, 0, none⟩ = some (.string (lastOf pre)) := hZ hS3.last 0
   have lf : W3.frozen? ⟨w.heap.size + 1 + 1 + 1, 0, none⟩ = false := heap_free hS3.last 0
   have HS := Hd hS3
   have HO := Hd hown
   have HPV := Hd hpv
   have HB3 := Hd hb3
   have HX := Hd hx
   have HSH := Hd hsh
   clear hS3 hown hpv hb3 hx hSI hsh
   by_cases hl : 14 < x.size
   · have hl1 : (14 : Int) < x.size := by omega
     gi_wp2
     exact HS.out.stopped HX.out hl
   · have hl1 : ¬ (14 : Int) < x.size := by omega
     by_cases hd : x.data.toList = [46]
     · have hd1 : x.toList = [46] := by rw [tQ]; exact hd
       have HD := Hd hd
       clear hd
       gi_wp2
       exact (HS.out.lastSet (kept_no pre x HD.out)).goes rfl rfl (short_app HSH.out hl) ((Below.heap_setCell _ _ _ _ (by simp)).trans HB3.out)
     · have hd1 : (x.toList == [46]) = false := by rw [tQ]; simpa using hd
       have HD := Hd hd
       clear hd
       have hkl := kept_len pre
       have HO2 := Hd (SI.own2 HO.out x)
       gi_wp2_with (gi_at_builtin; refine wpListIn_append_own _ rfl _ _ 52 rfl (w.heap.size + 7) 9 i0 (.string ByteArray.empty) 1 16 Tryz.underlying52 hi hz0 hz1 hz2 rfl (by decide) _ _ _ rfl (HO2.out.alloc _) ⟨W3.heap.size, 0, none⟩ 1 1 [.string x] rfl rfl (cell_one_set _ _ _ _) (by simp [Value.oneCell']) (by unfold maxLen; omega) (by omega) (by have := HS.out.size; simp; omega) ?_; intro v' w1 hown' hgrow _; obtain ⟨g', cap', rfl⟩ := ownsRow_succ hown'; have hq := p_kept HPV.out HS.out.size (own_ge HO.out) hgrow; have q1 := hq.1; have qf := hq.2; clear hq)
       obtain ⟨ha, hb⟩ := HS.out.appended (kept_yes pre x HD.out) HPV.out (own_ge HO.out) hgrow hown'
       exact ha.goes rfl rfl (short_app HSH.out hl) (hb.trans HB3.out)
 · rintro e W2 ⟨⟨v0, rfl⟩, (⟨xs, hxs, hSI, hsh⟩ | hstop)⟩
   · refine end_loop hSI rfl rfl (fun W4 hS4 => ?_)
     have HXS := Hd hxs
     have HSH := Hd hsh
     clear hxs hsh hSI W2 hW
     obtain ⟨v, hpv, hown⟩ := hS4.p
     obtain ⟨sa, sl, sc, rfl⟩ : ∃ a n c, v = .slice a n c := by
      obtain ⟨_, ⟨h2, _⟩ | ⟨g, cap, cur, h2, _⟩⟩ := hown
      · exact ⟨_, _, _, h2⟩
      · exact ⟨_, _, _, h2⟩
     have r0 : W4.cell? ⟨w.heap.size, 0, none⟩ = some (.bool false) := hZ hS4.res 0
     have r1 : W4.cell? ⟨w.heap.size, 1, none⟩ = some (.slice none 0 0) := hZ hS4.res 1
     have r2 : W4.cell? ⟨w.heap.size, 2, none⟩ = some (.bool false) := hZ hS4.res 2
     have rf : ∀ i, W4.frozen? ⟨w.heap.size, i, none⟩ = false := heap_free hS4.res
     have e0 : W4.cell? ⟨w.heap.size + 1, 0, none⟩ = some (.int .i64 0) := hZ hS4.err 0
     have ef : W4.frozen? ⟨w.heap.size + 1, 0, none⟩ = false := heap_free hS4.err 0
     have p0 : W4.cell? ⟨w.heap.size + 1 + 1, 0, none⟩ = some (.bool (Lib.hasPrefix s.data.toList [47])) := hZ hpv 0
     have p1 : W4.cell? ⟨w.heap.size + 1 + 1, 1, none⟩ = some (.slice sa sl sc) := hZ hpv 1
     have p2 : W4.cell? ⟨w.heap.size + 1 + 1, 2, none⟩ = some (.bool (Lib.hasSuffix s.data.toList [47])) := hZ hpv 2
     have pf : ∀ i, W4.frozen? ⟨w.heap.size + 1 + 1, i, none⟩ = false := heap_free hpv
     have l0 : W4.cell? ⟨w.heap.size + 1 + 1 + 1, 0, none⟩ = some (.string (lastOf xs)) := hZ hS4.last 0
     have HS := Hd hS4
     have HO := Hd hown
     have HPV := Hd hpv
     clear hS4 hown hpv
     gi_wp2_with fail
     refine ⟨trivial, ?_⟩
     refine (callsIn_wide.2 (plain_any _ _ (by omega))).mono ?_
     rintro e w' ⟨rfl, rfl⟩
     by_cases hp : plainB s.data.toList = true
     · have HF := Hd (split_ok H0.out hs HXS.out HSH.out hp)
       by_cases hd : Lib.hasSuffix s.data.toList [47] = true
       · have HF2 := Hd (HF.out.trans (by rw [hd]; simp : _ = (Lib.hasPrefix s.data.toList [47], true, (kept xs).map (fun x : ByteArray => x.data.toList), (0 : Int))))
         gi_wp2
         exact HS.out.final ⟨_, _, _, rfl⟩ HO.out rfl rfl true HF2.out
       · replace hd : Lib.hasSuffix s.data.toList [47] = false := by simpa using hd
         by_cases hl1 : (lastOf xs).data.toList = [46]
         · have hm1 : (lastOf xs).toList = [46] := by rw [tQ]; exact hl1
           have HF2 := Hd (HF.out.trans (by rw [hd, hl1]; simp : _ = (Lib.hasPrefix s.data.toList [47], true, (kept xs).map (fun x : ByteArray => x.data.toList), (0 : Int))))
           clear hl1
           gi_wp2
           exact HS.out.final ⟨_, _, _, rfl⟩ HO.out rfl rfl true HF2.out
         · have hm1 : ((lastOf xs).toList == [46]) = false := by rw [tQ]; simpa using hl1
           by_cases hl2 : (lastOf xs).data.toList = [46, 46]
           · have hm2 : (lastOf xs).toList = [46, 46] := by rw [tQ]; exact hl2
             have HF2 := Hd (HF.out.trans (by rw [hd, hl2]; simp : _ = (Lib.hasPrefix s.data.toList [47], true, (kept xs).map (fun x : ByteArray => x.data.toList), (0 : Int))))
             clear hl1 hl2
             gi_wp2
             exact HS.out.final ⟨_, _, _, rfl⟩ HO.out rfl rfl true HF2.out
           · have hm2 : ((lastOf xs).toList == [46, 46]) = false := by rw [tQ]; simpa using hl2
             have HF2 := Hd (HF.out.trans (by rw [hd]; simp [hl1, hl2] : _ = (Lib.hasPrefix s.data.toList [47], false, (kept xs).map (fun x : ByteArray => x.data.toList), (0 : Int))))
             clear hl1 hl2
             gi_wp2
             exact HS.out.final ⟨_, _, _, rfl⟩ HO.out rfl rfl false HF2.out
     · replace hp : plainB s.data.toList = false := by simpa using hp
       have HF := Hd (split_bad H0.out hs HXS.out HSH.out hp)
       gi_wp2
       exact HS.out.failed rfl rfl HF.out
   · obtain ⟨q1, q2, q3, q4, q5, q6⟩ := hstop
     refine ⟨some .ret, _, run_endLoop q5 (by simp), ?_⟩
     have HF := Hd (split_long H0.out (.inr q6))
     gi_wp2
     exact leave12 w.heap.size rfl rfl ((World.putObj_heap_other (by omega)).trans q2) ((World.putObj_heap_other (by omega)).trans q3) ((World.putObj_heap_other (by omega)).trans q4) ⟨none, 0, 0, rfl⟩ ⟨false, false, .slice none 0 0, [], 10, rfl, ⟨rfl, .inl ⟨rfl, rfl⟩⟩, below_put (below_put q1 (by omega)) (by omega), HF.out⟩
 · rfl
end Go.Proofs.YtafonmnfeibaiaaGreat.Pp
namespace Go.Proofs.YtafonmnfeibaiaaGreat.Pp
open Go.RowKit
theorem split_any (s : ByteArray) (w : World) : Calls Tryz.prog 32 #[.string s] w (splitPost s w) := by
 by_cases h0 : s.data.toList = []
 · have h1 : s.toList = [] := by rw [tQ]; exact h0
   have HF : Hid (splitS s.data.toList = (false, false, [], 3)) := Hd (by rw [splitS, if_pos h0])
   clear h0
   go_enter Tryz.func32, Tryz.ntmps32
   go_wp2
   exact bodyPost_ret (v := .tuple #[.agg #[.bool false, .slice none 0 0, .bool false], .int .i64 3]) (by simp [results, Tryz.results32, go_sem]) rfl ⟨false, false, .slice none 0 0, [], 3, rfl, ⟨rfl, .inl ⟨rfl, rfl⟩⟩, ((Below.refl _ _).alloc (Nat.le_refl _) _).alloc (by simp) _, HF.out⟩
 · by_cases hb : s.size ≤ 128
   · exact split_main s w h0 hb
   · have h1 : s.toList.isEmpty = false := by rw [tQ]; cases hh : s.data.toList with | nil => exact absurd hh h0 | cons => rfl
     have hb1 : (128 : Int) < s.size := by omega
     have HF : Hid (splitS s.data.toList = (false, false, [], 10)) := Hd (split_long h0 (.inl (by rw [sz]; omega)))
     clear h0
     go_enter Tryz.func32, Tryz.ntmps32
     go_wp2
     exact bodyPost_ret (v := .tuple #[.agg #[.bool false, .slice none 0 0, .bool false], .int .i64 10]) (by simp [results, Tryz.results32, go_sem]) rfl ⟨false, false, .slice none 0 0, [], 10, rfl, ⟨rfl, .inl ⟨rfl, rfl⟩⟩, ((Below.refl _ _).alloc (Nat.le_refl _) _).alloc (by simp) _, HF.out⟩
end Go.Proofs.YtafonmnfeibaiaaGreat.Pp
namespace Go.Proofs.YtafonmnfeibaiaaGreat
open Go.RowKit
structure Cr where
 real : Int
 eff : Int
 saved : Int
 group : Int
 eg : Int
def ask (t : Nat) (cwd : Int) (c : Cr) : Value := .agg #[.pointer (some ⟨t, 0, none⟩), .int .i64 cwd, .int .i64 c.real, .int .i64 c.eff, .int .i64 c.saved, .int .i64 c.group, .int .i64 c.eg]
def infoV (i k m o g l z y : Int) : Value := .agg #[.int .i64 i, .int .i64 k, .int .i64 m, .int .i64 o, .int .i64 g, .int .i64 l, .int .i64 z, .int .i64 y]
theorem wmay_any (t : Nat) (cwd : Int) (c : Cr) (i k m o g l z y want : Int) (w : World) :
  Calls Tryz.prog 39 #[ask t cwd c, infoV i k m o g l z y, .int .i64 want] w fun e w' => e = .returned (.bool (Md.mayS m o g (decide (k = 1)) c.eff c.eg want)) ∧ Below w.heap.size w w' := by
 obtain ⟨real, eff, saved, group, eg⟩ := c
 unfold ask infoV
 go_enter Tryz.func39, Tryz.ntmps39
 go_wp2_with fail
 have e1 : (k == 1) = decide (k = 1) := rfl
 refine (Md.may_any _ _ _ _ _ _ _ _).mono ?_
 rintro e w' ⟨rfl, rfl⟩
 go_wp2
 go_ret
 exact ⟨rfl, ((Below.refl _ _).alloc (Nat.le_refl _) _).alloc (by rw [aZ]; omega) _⟩
def mayN (m : IT.Nd) (c : Cr) (want : Int) : Bool := Md.mayS m.mode m.owner m.group (decide (m.kind = 1)) c.eff c.eg want
def entersE (m : IT.Nd) (c : Cr) : Int := if m.kind ≠ 1 then 6 else if mayN m c 1 = false then 4 else 0
def downT (T : IT.Tr) (c : Cr) : Nat → List IT.Bytes → Nat × Int
 | k, [] => (k, 0)
 | k, n :: l => match T k with
   | none => (0, 3)
   | some m => if entersE m c ≠ 0 then (0, entersE m c) else match lookT T k n with
     | none => (0, 3)
     | some j => downT T c j l
def startT (cwd : Int) (abs : Bool) : Nat := if abs then 1 else cwd.toNat
def goT (T : IT.Tr) (c : Cr) (cwd : Int) (abs : Bool) (l : List IT.Bytes) : Nat × Int := if T (startT cwd abs) = none then (0, 3) else downT T c (startT cwd abs) l
def kindT (T : IT.Tr) (k : Nat) : Int := match T k with
 | none => 0
 | some m => m.kind
def findT (T : IT.Tr) (c : Cr) (cwd : Int) (s : IT.Bytes) : Nat × Int :=
 if (Pp.splitS s).2.2.2 ≠ 0 then (0, (Pp.splitS s).2.2.2)
 else if (goT T c cwd (Pp.splitS s).1 (Pp.splitS s).2.2.1).2 ≠ 0 then (0, (goT T c cwd (Pp.splitS s).1 (Pp.splitS s).2.2.1).2)
 else if (Pp.splitS s).2.1 = true ∧ kindT T (goT T c cwd (Pp.splitS s).1 (Pp.splitS s).2.2.1).1 ≠ 1 then (0, 6)
 else ((goT T c cwd (Pp.splitS s).1 (Pp.splitS s).2.2.1).1, 0)
structure Ent where
 dir : Nat
 name : IT.Bytes
 must : Bool
 tg : Option Nat
def entryT (T : IT.Tr) (c : Cr) (cwd : Int) (s : IT.Bytes) : Except Int Ent :=
 if (Pp.splitS s).2.2.2 ≠ 0 then .error (Pp.splitS s).2.2.2
 else if (Pp.splitS s).2.2.1 = [] ∨ (Pp.splitS s).2.2.1.getLast? = some [46, 46] then .error 1
 else if (goT T c cwd (Pp.splitS s).1 (Pp.splitS s).2.2.1.dropLast).2 ≠ 0 then .error (goT T c cwd (Pp.splitS s).1 (Pp.splitS s).2.2.1.dropLast).2
 else match T (goT T c cwd (Pp.splitS s).1 (Pp.splitS s).2.2.1.dropLast).1 with
  | none => .error 3
  | some m => if entersE m c ≠ 0 then .error (entersE m c)
    else .ok ⟨(goT T c cwd (Pp.splitS s).1 (Pp.splitS s).2.2.1.dropLast).1, ((Pp.splitS s).2.2.1.getLast?).getD [], (Pp.splitS s).2.1, lookT T (goT T c cwd (Pp.splitS s).1 (Pp.splitS s).2.2.1.dropLast).1 (((Pp.splitS s).2.2.1.getLast?).getD [])⟩
theorem look_there {T : IT.Tr} (hs : IT.Sound okN T) {k j : Nat} {nm : IT.Bytes} (h : lookT T k nm = some j) : ∃ m, T j = some m := by
 unfold lookT at h
 cases hk : T k with
 | none => rw [hk] at h; cases h
 | some m =>
   rw [hk] at h
   dsimp only at h
   split at h
   · cases h
   · rename_i hkd
     split at h
     · obtain rfl := oI h; exact ⟨m, hk⟩
     · split at h
       · obtain rfl := oI h
         obtain ⟨rk, hrk⟩ := hs.1.chain
         by_cases hp : m.parent = k
         · exact ⟨m, by rw [hp]; exact hk⟩
         · obtain ⟨_, m2, hm2, _⟩ := hrk k m hk (Decidable.not_not.1 hkd) hp
           exact ⟨m2, hm2⟩
       · exact hs.1.lead k m (nm, j) hk (IT.find_mem h)
theorem down_there {T : IT.Tr} (hs : IT.Sound okN T) (c : Cr) : ∀ (l : List IT.Bytes) (k : Nat), (∃ m, T k = some m) → (downT T c k l).2 = 0 → ∃ m, T (downT T c k l).1 = some m
 | [], k, h, _ => h
 | n :: l, k, ⟨m, hm⟩, h => by
   unfold downT at h ⊢
   rw [hm] at h ⊢
   dsimp only at h ⊢
   split at h
   · rename_i he; exact absurd h he
   · rename_i he
     rw [if_neg he]
     cases hl : lookT T k n with
     | none => rw [hl] at h; cases h
     | some j =>
       rw [hl] at h
       exact down_there hs c l j (look_there hs hl) h
theorem go_there {T : IT.Tr} (hs : IT.Sound okN T) {c : Cr} {cwd : Int} {abs : Bool} {l : List IT.Bytes} (h : (goT T c cwd abs l).2 = 0) : ∃ m, T (goT T c cwd abs l).1 = some m := by
 unfold goT at h ⊢
 by_cases hk : T (startT cwd abs) = none
 · rw [if_pos hk] at h; cases h
 · rw [if_neg hk] at h ⊢
   refine down_there hs c l _ ?_ h
   cases hm : T (startT cwd abs) with
   | none => exact absurd hm hk
   | some m => exact ⟨m, rfl⟩
theorem find_there {T : IT.Tr} (hs : IT.Sound okN T) {c : Cr} {cwd : Int} {s : IT.Bytes} (h : (findT T c cwd s).2 = 0) : ∃ m, T (findT T c cwd s).1 = some m := by
 unfold findT at h ⊢
 split at h
 · rename_i he; exact absurd h he
 · split at h
   · rename_i he; exact absurd h he
   · rename_i h1 h2
     split at h
     · cases h
     · rename_i h3
       rw [if_neg h1, if_neg h2, if_neg h3]
       exact go_there hs (Decidable.not_not.1 h2)
theorem wenters_any (t : Nat) (cwd : Int) (c : Cr) (i k m o g l z y : Int) (w : World) :
  Calls Tryz.prog 77 #[ask t cwd c, infoV i k m o g l z y] w fun e w' => ∃ r : Int, e = .returned (.int .i64 r) ∧ r = (if k ≠ 1 then 6 else if Md.mayS m o g (decide (k = 1)) c.eff c.eg 1 = false then 4 else 0) ∧ Below w.heap.size w w' := by
 obtain ⟨real, eff, saved, group, eg⟩ := c
 by_cases hk : k = 1
 · subst hk
   rw [if_neg (fun hh => hh rfl)]
   have hm := wmay_any t cwd ⟨real, eff, saved, group, eg⟩ i 1 m o g l z y 1
   generalize hM : Md.mayS m o g (decide ((1 : Int) = 1)) eff eg 1 = M at *
   have HM : Hid (∀ w : World, Calls Tryz.prog 39 #[ask t cwd ⟨real, eff, saved, group, eg⟩, infoV i 1 m o g l z y, .int .i64 1] w fun e w' => e = .returned (.bool M) ∧ Below w.heap.size w w') := Hd (fun w => hm w)
   clear hM hm
   cases M with
   | true =>
     unfold ask infoV
     go_enter Tryz.func77, Tryz.ntmps77
     go_wp2_with fail
     refine (HM.out _).mono ?_
     rintro e w' ⟨rfl, hb⟩
     have HB := Hd hb
     clear hb
     go_wp2
     go_ret
     exact ⟨0, rfl, rfl, (((Below.refl _ _).alloc (Nat.le_refl _) _).alloc (by rw [aZ]; omega) _).trans (HB.out.mono (by rw [aZ, aZ]; omega))⟩
   | false =>
     unfold ask infoV
     go_enter Tryz.func77, Tryz.ntmps77
     go_wp2_with fail
     refine (HM.out _).mono ?_
     rintro e w' ⟨rfl, hb⟩
     have HB := Hd hb
     clear hb
     go_wp2
     go_ret
     exact ⟨4, rfl, rfl, (((Below.refl _ _).alloc (Nat.le_refl _) _).alloc (by rw [aZ]; omega) _).trans (HB.out.mono (by rw [aZ, aZ]; omega))⟩
 · rw [if_pos hk]
   have hk1 : (k != 1) = true := by simpa using hk
   clear hk
   unfold ask infoV
   go_enter Tryz.func77, Tryz.ntmps77
   go_wp2
   go_ret
   exact ⟨6, rfl, rfl, ((Below.refl _ _).alloc (Nat.le_refl _) _).alloc (by rw [aZ]; omega) _⟩
theorem stat_infoV {T : IT.Tr} {k : Nat} {m : IT.Nd} (h : T k = some m) : statV T k = infoV k m.kind m.mode m.owner m.group (IT.lnk T k : Nat) (m.data.length + m.names.length : Nat) m.tty := by
 unfold statV; rw [h]; rfl
def Row (w : World) (a : Option Addr) (l : List ByteArray) : Prop := ∀ j (h : j < l.length), ∃ b off, a = some ⟨b, off, none⟩ ∧ b < w.heap.size ∧ w.cell? ⟨b, off + j, none⟩ = some (.string l[j])
def askC (t : Nat) (cwd : Int) (c : Cr) : Array Value := #[.pointer (some ⟨t, 0, none⟩), .int .i64 cwd, .int .i64 c.real, .int .i64 c.eff, .int .i64 c.saved, .int .i64 c.group, .int .i64 c.eg]
def infC (T : IT.Tr) (k : Nat) (m : IT.Nd) : Array Value := #[.int .i64 k, .int .i64 m.kind, .int .i64 m.mode, .int .i64 m.owner, .int .i64 m.group, .int .i64 (IT.lnk T k : Nat), .int .i64 (m.data.length + m.names.length : Nat), .int .i64 m.tty]
def zeroC : Array Value := #[.int .i64 0, .int .i64 0, .int .i64 0, .int .i64 0, .int .i64 0, .int .i64 0, .int .i64 0, .int .i64 0]
structure DI (w : World) (t : Nat) (cwd : Int) (c : Cr) (T : IT.Tr) (B R X k : Nat) (m : IT.Nd) (wr : World) : Prop where
 below : Below w.heap.size w wr
 a : wr.heap[B]? = some (.cells (askC t cwd c) 77 (0, 0))
 r : wr.heap[R]? = some (.cells zeroC 44 (0, 0))
 x : wr.heap[X]? = some (.cells (infC T k m) 44 (0, 0))
 at_ : T k = some m
section
variable {w wr wr' : World} {t : Nat} {cwd : Int} {c : Cr} {T : IT.Tr} {B R X k : Nat} {m : IT.Nd}
theorem DI.turn (h : DI w t cwd c T B R X k m wr) (g : Below wr.heap.size wr wr') : DI w t cwd c T B R X k m wr' :=
 ⟨h.below.trans (g.mono h.below.size), (g.block _ (lH h.a)).trans h.a, (g.block _ (lH h.r)).trans h.r, (g.block _ (lH h.x)).trans h.x, h.at_⟩
theorem DI.ca (h : DI w t cwd c T B R X k m wr) (i : Nat) : wr.cell? ⟨B, i, none⟩ = (askC t cwd c)[i]? := cO h.a i
theorem DI.cr (h : DI w t cwd c T B R X k m wr) (i : Nat) : wr.cell? ⟨R, i, none⟩ = zeroC[i]? := cO h.r i
theorem DI.cx (h : DI w t cwd c T B R X k m wr) (i : Nat) : wr.cell? ⟨X, i, none⟩ = (infC T k m)[i]? := cO h.x i
theorem DI.fr (h : DI w t cwd c T B R X k m wr) (i : Nat) : wr.frozen? ⟨R, i, none⟩ = false := fO h.r i
theorem DI.fx (h : DI w t cwd c T B R X k m wr) (i : Nat) : wr.frozen? ⟨X, i, none⟩ = false := fO h.x i
end
theorem arr_set8 {α : Type} (u0 u1 u2 u3 u4 u5 u6 u7 v0 v1 v2 v3 v4 v5 v6 v7 : α) : (((((((((#[u0, u1, u2, u3, u4, u5, u6, u7] : Array α).setIfInBounds 0 v0).setIfInBounds 1 v1).setIfInBounds 2 v2).setIfInBounds 3 v3).setIfInBounds 4 v4).setIfInBounds 5 v5).setIfInBounds 6 v6).setIfInBounds 7 v7) = #[v0, v1, v2, v3, v4, v5, v6, v7] := by
 apply Array.ext'
 simp
section
variable {W : World} {R : Nat} {T : TypeId} {f : Nat × Nat} {v0 v1 v2 v3 v4 v5 v6 v7 u0 u1 u2 u3 u4 u5 u6 u7 : Value}
theorem heap_set8 (h : W.heap[R]? = some (.cells #[u0, u1, u2, u3, u4, u5, u6, u7] T f)) : ((((((((W.setCell ⟨R, 0, none⟩ v0).setCell ⟨R, 1, none⟩ v1).setCell ⟨R, 2, none⟩ v2).setCell ⟨R, 3, none⟩ v3).setCell ⟨R, 4, none⟩ v4).setCell ⟨R, 5, none⟩ v5).setCell ⟨R, 6, none⟩ v6).setCell ⟨R, 7, none⟩ v7).heap[R]? = some (.cells #[v0, v1, v2, v3, v4, v5, v6, v7] T f) := by
 have h0 := heap_setCell_same (i := 0) h v0
 have h1 := heap_setCell_same (i := 1) h0 v1
 have h2 := heap_setCell_same (i := 2) h1 v2
 have h3 := heap_setCell_same (i := 3) h2 v3
 have h4 := heap_setCell_same (i := 4) h3 v4
 have h5 := heap_setCell_same (i := 5) h4 v5
 have h6 := heap_setCell_same (i := 6) h5 v6
 have h7 := heap_setCell_same (i := 7) h6 v7
 rw [arr_set8] at h7
 exact h7
theorem heap_set8_other {b : Nat} (hb : b ≠ R) : ((((((((W.setCell ⟨R, 0, none⟩ v0).setCell ⟨R, 1, none⟩ v1).setCell ⟨R, 2, none⟩ v2).setCell ⟨R, 3, none⟩ v3).setCell ⟨R, 4, none⟩ v4).setCell ⟨R, 5, none⟩ v5).setCell ⟨R, 6, none⟩ v6).setCell ⟨R, 7, none⟩ v7).heap[b]? = W.heap[b]? := by
 rw [Below.heap_setCell _ _ _ _ hb, Below.heap_setCell _ _ _ _ hb, Below.heap_setCell _ _ _ _ hb, Below.heap_setCell _ _ _ _ hb, Below.heap_setCell _ _ _ _ hb, Below.heap_setCell _ _ _ _ hb, Below.heap_setCell _ _ _ _ hb, Below.heap_setCell _ _ _ _ hb]
theorem below_set8 {n : Nat} {w : World} (h : Below n w W) (hn : n ≤ R) : Below n w ((((((((W.setCell ⟨R, 0, none⟩ v0).setCell ⟨R, 1, none⟩ v1).setCell ⟨R, 2, none⟩ v2).setCell ⟨R, 3, none⟩ v3).setCell ⟨R, 4, none⟩ v4).setCell ⟨R, 5, none⟩ v5).setCell ⟨R, 6, none⟩ v6).setCell ⟨R, 7, none⟩ v7) :=
 (((((((h.setCell hn _).setCell hn _).setCell hn _).setCell hn _).setCell hn _).setCell hn _).setCell hn _).setCell hn _
end
theorem ret_info {fn : Func} {tmps : Array Value} {W : World} {R : Nat} {p u : Tmp} {v0 v1 v2 v3 v4 v5 v6 v7 : Value} (hres : fn.results = #[.cell p 44, .tmp u]) (hp : tmps.getD p undef = .pointer (some ⟨R, 0, none⟩))
  (hR : W.heap[R]? = some (.cells #[v0, v1, v2, v3, v4, v5, v6, v7] 44 (0, 0))) : (results fn tmps).run Tryz.prog W = .ok (.tuple #[.agg #[v0, v1, v2, v3, v4, v5, v6, v7], tmps.getD u undef]) W := by
 rw [results_cell_tmp hres, hp]
 have c0 : W.cell? ⟨R, 0, none⟩ = some v0 := cO hR 0
 have c1 : W.cell? ⟨R, 1, none⟩ = some v1 := cO hR 1
 have c2 : W.cell? ⟨R, 2, none⟩ = some v2 := cO hR 2
 have c3 : W.cell? ⟨R, 3, none⟩ = some v3 := cO hR 3
 have c4 : W.cell? ⟨R, 4, none⟩ = some v4 := cO hR 4
 have c5 : W.cell? ⟨R, 5, none⟩ = some v5 := cO hR 5
 have c6 : W.cell? ⟨R, 6, none⟩ = some v6 := cO hR 6
 have c7 : W.cell? ⟨R, 7, none⟩ = some v7 := cO hR 7
 simp [go_sem, c0, c1, c2, c3, c4, c5, c6, c7, Tryz.isAgg44, Tryz.sizeOf44]
end Go.Proofs.YtafonmnfeibaiaaGreat
namespace Go.Proofs.YtafonmnfeibaiaaGreat.RF
open Go.RowKit
def makeBad (kind mo o g tty : Int) : Prop := kind < 0 ∨ 2 < kind ∨ rightB mo o g = false ∨ (kind = 2 ∧ (tty < 0 ∨ 4 ≤ tty))
theorem rf_make_bad {t : Nat} (kind mo o g tty : Int) (hmo : mo < 9223372036854775808) (w : World) (hb : makeBad kind mo o g tty) :
  Calls Tryz.prog 120 #[.pointer (some ⟨t, 0, none⟩), .int .i64 kind, .int .i64 mo, .int .i64 o, .int .i64 g, .int .i64 tty] w fun e w' => e = .returned (.tuple #[.int .i64 0, .int .i64 1]) ∧ w = w' := by
 have HR := Hd (Md.rright_any mo hmo w)
 have HO := Hd (rf_id o w)
 have HG := Hd (rf_id g w)
 unfold makeBad at hb
 rw [right_ids] at hb
 clear hmo
 generalize Md.rightB mo = rm at *
 by_cases h1 : kind < 0
 · clear hb
   go_enter Tryz.func120, Tryz.ntmps120
   go_wp2_with fail
   refine HR.out.mono ?_
   rintro e w2 ⟨rfl, rfl⟩
   go_wp2
   go_ret2
   exact ⟨rfl, rfl⟩
 · by_cases h2 : 2 < kind
   · clear hb
     go_enter Tryz.func120, Tryz.ntmps120
     go_wp2_with fail
     refine HR.out.mono ?_
     rintro e w2 ⟨rfl, rfl⟩
     go_wp2
     go_ret2
     exact ⟨rfl, rfl⟩
   · cases rm with
     | false =>
       clear hb
       go_enter Tryz.func120, Tryz.ntmps120
       go_wp2_with fail
       refine HR.out.mono ?_
       rintro e w2 ⟨rfl, rfl⟩
       go_wp2
       go_ret2
       exact ⟨rfl, rfl⟩
     | true =>
       cases ho : idB o with
       | false =>
         rw [ho] at HO
         clear hb ho
         go_enter Tryz.func120, Tryz.ntmps120
         go_wp2_with fail
         refine HR.out.mono ?_
         rintro e w2 ⟨rfl, rfl⟩
         go_wp2_with fail
         refine HO.out.mono ?_
         rintro e w2 ⟨rfl, rfl⟩
         go_wp2
         go_ret2
         exact ⟨rfl, rfl⟩
       | true =>
         rw [ho] at HO
         cases hg : idB g with
         | false =>
           rw [hg] at HG
           clear hb ho hg
           go_enter Tryz.func120, Tryz.ntmps120
           go_wp2_with fail
           refine HR.out.mono ?_
           rintro e w2 ⟨rfl, rfl⟩
           go_wp2_with fail
           refine HO.out.mono ?_
           rintro e w2 ⟨rfl, rfl⟩
           go_wp2_with fail
           refine HG.out.mono ?_
           rintro e w2 ⟨rfl, rfl⟩
           go_wp2
           go_ret2
           exact ⟨rfl, rfl⟩
         | true =>
           rw [hg] at HG
           have hk : kind = 2 ∧ (tty < 0 ∨ 4 ≤ tty) := by
            rcases hb with hb | hb | hb | hb
            · omega
            · omega
            · rw [ho, hg] at hb; cases hb
            · exact hb
           obtain ⟨rfl, hk⟩ := hk
           clear hb ho hg
           by_cases h3 : tty < 0
           · clear hk
             go_enter Tryz.func120, Tryz.ntmps120
             go_wp2_with fail
             refine HR.out.mono ?_
             rintro e w2 ⟨rfl, rfl⟩
             go_wp2_with fail
             refine HO.out.mono ?_
             rintro e w2 ⟨rfl, rfl⟩
             go_wp2_with fail
             refine HG.out.mono ?_
             rintro e w2 ⟨rfl, rfl⟩
             go_wp2
             go_ret2
             exact ⟨rfl, rfl⟩
           · have h4 : 4 ≤ tty := by omega
             clear hk
             go_enter Tryz.func120, Tryz.ntmps120
             go_wp2_with fail
             refine HR.out.mono ?_
             rintro e w2 ⟨rfl, rfl⟩
             go_wp2_with fail
             refine HO.out.mono ?_
             rintro e w2 ⟨rfl, rfl⟩
             go_wp2_with fail
             refine HG.out.mono ?_
             rintro e w2 ⟨rfl, rfl⟩
             go_wp2
             go_ret2
             exact ⟨rfl, rfl⟩
def makeN (kind mo o g tty : Int) (k : Nat) : IT.Nd := ⟨kind, mo, o, g, if kind = 2 then tty else 0, 1, [], [], if kind = 1 then k else 0⟩
def makeR (kind mo o g tty : Int) (k : Nat) : RN := ⟨true, kind, mo, o, g, if kind = 2 then tty else 0, 1, ((if kind = 1 then k else 0 : Nat) : Int), ⟨#[]⟩, .slice none 0 0, []⟩
theorem make_kept (kind mo o g tty : Int) (k : Nat) : Kept (makeR kind mo o g tty k) (makeN kind mo o g tty k) := ⟨rfl, rfl, rfl, rfl, rfl, rfl, rfl, fun _ => rfl, rfl, List.Perm.refl _⟩
theorem make_stf {w W : World} {t B : Nat} {G : Gt} {T : IT.Tr} (h : Trf w t B G T) (hb : Below w.heap.size w W) {kind mo o g tty : Int} (hbad : ¬ makeBad kind mo o g tty) {k : Nat} (hk1 : 1 ≤ k) (hk2 : k ≤ 200) (hk : T k = none) (hf : ∀ j, 1 ≤ j → j < k → T j ≠ none) :
  Stf w t B (fun T' => IT.isMake rt T kind mo o g tty k 0 T') (W.setCells B (k * 10) (makeR kind mo o g tty k).cells) := by
 refine ⟨_, _, (Mo.of hb).setCells _ _, (h.rep.below hb).setAll hk2 _ (EntAt.nil _ _ rfl rfl), h.ties.set k (make_kept kind mo o g tty k), ?_⟩
 unfold makeBad at hbad
 show IT.isMake rt T kind mo o g tty k 0 _
 unfold IT.isMake
 have hr : rightB mo o g = true := by
  cases hh : rightB mo o g with
  | true => rfl
  | false => exact absurd (.inr (.inr (.inl hh))) hbad
 rw [if_neg (by rintro (a | a | a); exact hbad (.inl a); exact hbad (.inr (.inl a)); exact a hr), if_neg (fun hh => hbad (.inr (.inr (.inr ⟨hh.1, by omega⟩)))), if_neg (fun hh => hh k hk1 hk2 hk)]
 exact ⟨rfl, hk1, hk2, hk, hf, rfl⟩
theorem make_full {w : World} {t B : Nat} {G : Gt} {T : IT.Tr} (h : Trf w t B G T) {kind mo o g tty : Int} (hbad : ¬ makeBad kind mo o g tty) (hf : ∀ j, 1 ≤ j → j < 201 → T j ≠ none) :
  Stf w t B (fun T' => IT.isMake rt T kind mo o g tty 0 9 T') w := by
 refine Stf.keep h (Below.refl _ _) ?_
 unfold makeBad at hbad
 unfold IT.isMake
 have hr : rightB mo o g = true := by
  cases hh : rightB mo o g with
  | true => rfl
  | false => exact absurd (.inr (.inr (.inl hh))) hbad
 rw [if_neg (by rintro (a | a | a); exact hbad (.inl a); exact hbad (.inr (.inl a)); exact a hr), if_neg (fun hh => hbad (.inr (.inr (.inr ⟨hh.1, by omega⟩)))), if_pos (fun k h1 h2 => hf k h1 (by omega))]
 exact ⟨rfl, rfl, rfl⟩
theorem rf_make {w : World} {t B : Nat} {G : Gt} {T : IT.Tr} (h : Trf w t B G T) (kind mo o g tty : Int) (hmo : mo < 9223372036854775808) :
  Calls Tryz.prog 120 #[.pointer (some ⟨t, 0, none⟩), .int .i64 kind, .int .i64 mo, .int .i64 o, .int .i64 g, .int .i64 tty] w fun e w' => ∃ (i : Nat) (r : Int), e = .returned (.tuple #[.int .i64 i, .int .i64 r]) ∧ Stf w t B (fun T' => IT.isMake rt T kind mo o g tty i r T') w' := by
 by_cases hbad : makeBad kind mo o g tty
 · refine (rf_make_bad kind mo o g tty hmo w hbad).mono ?_
   rintro e w' ⟨rfl, rfl⟩
   refine ⟨0, 1, rfl, Stf.keep h (Below.refl _ _) ?_⟩
   unfold makeBad at hbad
   unfold IT.isMake
   rcases hbad with a | a | a | a
   · rw [if_pos (.inl a)]; exact ⟨rfl, rfl, rfl⟩
   · rw [if_pos (.inr (.inl a))]; exact ⟨rfl, rfl, rfl⟩
   · rw [if_pos (.inr (.inr (fun hh => by unfold rt at hh; rw [a] at hh; cases hh)))]; exact ⟨rfl, rfl, rfl⟩
   · by_cases hx : kind < 0 ∨ kind > 2 ∨ ¬ rt mo o g
     · rw [if_pos hx]; exact ⟨rfl, rfl, rfl⟩
     · rw [if_neg hx, if_pos a]; exact ⟨rfl, rfl, rfl⟩
 · have HR : Hid (Calls Tryz.prog 55 #[.int .i64 mo] w fun e w' => e = .returned (.bool (Md.rightB mo)) ∧ w = w') := Hd ((Md.rright_any mo hmo w).mono (fun _ _ h => ⟨h.1, h.2.symm⟩))
   have HO := Hd (rf_id o w)
   have HG := Hd (rf_id g w)
   have hr : rightB mo o g = true := by
    cases hh : rightB mo o g with
    | true => rfl
    | false => exact absurd (.inr (.inr (.inl hh))) hbad
   obtain ⟨r1, r2, r3⟩ := right_parts hr
   rw [r1] at HR
   rw [r2] at HO
   rw [r3] at HG
   have HBAD := Hd hbad
   have H := Hd h
   have hkind : kind = 0 ∨ kind = 1 ∨ (kind = 2 ∧ 0 ≤ tty ∧ tty < 4) := by
    unfold makeBad at hbad
    by_cases h0 : kind = 0
    · exact .inl h0
    · by_cases h1 : kind = 1
      · exact .inr (.inl h1)
      · have h2 : kind = 2 := by
         have := fun e => hbad (.inl e)
         have := fun e => hbad (.inr (.inl e))
         omega
        refine .inr (.inr ⟨h2, ?_, ?_⟩)
        · exact Int.not_lt.1 (fun e => hbad (.inr (.inr (.inr ⟨h2, .inl e⟩))))
        · exact Int.not_le.1 (fun e => hbad (.inr (.inr (.inr ⟨h2, .inr e⟩))))
   clear h hbad hr r1 r2 r3 hmo
   rcases hkind with rfl | rfl | ⟨rfl, ht1, ht2⟩
   · go_enter Tryz.func120, Tryz.ntmps120
     go_wp2_with fail
     refine HR.out.mono ?_
     rintro e w2 ⟨rfl, rfl⟩
     go_wp2_with fail
     refine HO.out.mono ?_
     rintro e w2 ⟨rfl, rfl⟩
     go_wp2_with fail
     refine HG.out.mono ?_
     rintro e w2 ⟨rfl, rfl⟩
     go_wp2
     go_loopg [15] 200 (fun gg iv wr => ∃ k : Nat, 1 ≤ k ∧ k + gg = 201 ∧ iv = .int .i64 (k : Int) ∧ wr = w ∧ Hid (∀ j, 1 ≤ j → j < k → T j ≠ none))
     case atStart => exact ⟨1, by omega, by omega, rfl, rfl, Hd (fun j h1 h2 => by omega)⟩
     case round =>
      obtain ⟨k, hk1, hkg, rfl, rfl, HF⟩ := hrel
      by_cases hlt : k ≤ 200
      · obtain ⟨og, rfl⟩ : ∃ og, gk = og + 1 := ⟨gk - 1, by omega⟩
        have c0 := H.out.rep.cellT
        have b0 := H.out.rep.c0 k hlt
        cases hA : T k with
        | some m =>
          rw [(H.out.ties.sok k m hA).is] at b0
          have HF2 : Hid (∀ j, 1 ≤ j → j < k + 1 → T j ≠ none) := Hd (fun j h1 h2 => by
           by_cases e : j = k
           · subst e; rw [hA]; exact fun e => by cases e
           · exact HF.out j h1 (by omega))
          clear hA
          go_wp2
          go_roundg og
          case measure => omega
          case rel => exact ⟨k + 1, by omega, by omega, by go_num, rfl, HF2⟩
        | none =>
          rw [(H.out.ties.nok k hlt hA).1] at b0
          have HA := Hd hA
          clear hA
          go_wp2_with fail
          have hX := aQ wr (.cells #[.bool true, .int .i64 0, .int .i64 mo, .int .i64 o, .int .i64 g, .int .i64 0, .int .i64 1, .int .i64 0, .string ⟨#[]⟩, .slice none 0 0] 112)
          have hbw : Below wr.heap.size wr ((wr.alloc (.cells #[.bool true, .int .i64 0, .int .i64 mo, .int .i64 o, .int .i64 g, .int .i64 0, .int .i64 1, .int .i64 0, .string ⟨#[]⟩, .slice none 0 0] 112)).drew) := ((Below.refl _ _).alloc (Nat.le_refl _) _).drew
          change ((wr.alloc (.cells #[.bool true, .int .i64 0, .int .i64 mo, .int .i64 o, .int .i64 g, .int .i64 0, .int .i64 1, .int .i64 0, .string ⟨#[]⟩, .slice none 0 0] 112)).drew).heap[wr.heap.size]? = _ at hX
          refine wp_region_still_tail 7 (by kernel_rfl) (by kernel_rfl) ?_
          change wpStill _ _ ((wr.alloc (.cells #[.bool true, .int .i64 0, .int .i64 mo, .int .i64 o, .int .i64 g, .int .i64 0, .int .i64 1, .int .i64 0, .string ⟨#[]⟩, .slice none 0 0] 112)).drew) (fun a' => wpList _ _ _ _ a' ((wr.alloc (.cells #[.bool true, .int .i64 0, .int .i64 mo, .int .i64 o, .int .i64 g, .int .i64 0, .int .i64 1, .int .i64 0, .string ⟨#[]⟩, .slice none 0 0] 112)).drew)) _ _
          generalize ((wr.alloc (.cells #[.bool true, .int .i64 0, .int .i64 mo, .int .i64 o, .int .i64 g, .int .i64 0, .int .i64 1, .int .i64 0, .string ⟨#[]⟩, .slice none 0 0] 112)).drew) = W at *
          clear c0 b0
          have c0 := (H.out.rep.below hbw).cellT
          have x0 : W.cell? ⟨wr.heap.size, 0, none⟩ = some (.bool true) := cO hX 0
          have x1 : W.cell? ⟨wr.heap.size, 1, none⟩ = some (.int .i64 0) := cO hX 1
          have x2 : W.cell? ⟨wr.heap.size, 2, none⟩ = some (.int .i64 mo) := cO hX 2
          have x3 : W.cell? ⟨wr.heap.size, 3, none⟩ = some (.int .i64 o) := cO hX 3
          have x4 : W.cell? ⟨wr.heap.size, 4, none⟩ = some (.int .i64 g) := cO hX 4
          have x5 : W.cell? ⟨wr.heap.size, 5, none⟩ = some (.int .i64 0) := cO hX 5
          have x6 : W.cell? ⟨wr.heap.size, 6, none⟩ = some (.int .i64 1) := cO hX 6
          have x7 : W.cell? ⟨wr.heap.size, 7, none⟩ = some (.int .i64 0) := cO hX 7
          have x8 : W.cell? ⟨wr.heap.size, 8, none⟩ = some (.string ⟨#[]⟩) := cO hX 8
          have x9 : W.cell? ⟨wr.heap.size, 9, none⟩ = some (.slice none 0 0) := cO hX 9
          have HBW := Hd hbw
          have hT : W.there B (k * 10) 10 := (H.out.rep.below hbw).there hlt
          have hI : (Tryz.prog.info? 112).map (·.size) = some 10 := rfl
          clear hX hbw
          have n1 : k < 201 := by omega
          have n2 : (k : Int) < 201 := by omega
          simp only [List.take_succ_cons, List.take_zero, List.drop_succ_cons, List.drop_zero]
          repeat still_step
          refine wpStill_nil ?_
          have HS := Hd (make_stf H.out HBW.out HBAD.out hk1 hlt HA.out HF.out)
          refine wpList_store_mid rfl 112 _ _ rfl B (k * 10) (makeR 0 mo o g tty k).cells.toArray rfl rfl hT hI (by simp [RN.cells, makeR, Value.oneCell']) ?_
          have HS2 : Hid (Stf wr t B (fun T' => IT.isMake rt T 0 mo o g tty k 0 T') (World.setCells W B (k * 10) (makeR 0 mo o g tty k).cells.toArray.toList)) := HS
          generalize World.setCells W B (k * 10) (makeR 0 mo o g tty k).cells.toArray.toList = W5 at HS2 ⊢
          clear HS hT hI
          go_wp2
          go_ret2
          exact ⟨k, 0, rfl, HS2.out⟩
      · obtain rfl : k = 201 := by omega
        have HS := Hd (make_full H.out HBAD.out HF.out)
        clear hlt
        go_wp2
        go_ret2
        exact ⟨0, 9, rfl, HS.out⟩
   · go_enter Tryz.func120, Tryz.ntmps120
     go_wp2_with fail
     refine HR.out.mono ?_
     rintro e w2 ⟨rfl, rfl⟩
     go_wp2_with fail
     refine HO.out.mono ?_
     rintro e w2 ⟨rfl, rfl⟩
     go_wp2_with fail
     refine HG.out.mono ?_
     rintro e w2 ⟨rfl, rfl⟩
     go_wp2
     go_loopg [15] 200 (fun gg iv wr => ∃ k : Nat, 1 ≤ k ∧ k + gg = 201 ∧ iv = .int .i64 (k : Int) ∧ wr = w ∧ Hid (∀ j, 1 ≤ j → j < k → T j ≠ none))
     case atStart => exact ⟨1, by omega, by omega, rfl, rfl, Hd (fun j h1 h2 => by omega)⟩
     case round =>
      obtain ⟨k, hk1, hkg, rfl, rfl, HF⟩ := hrel
      by_cases hlt : k ≤ 200
      · obtain ⟨og, rfl⟩ : ∃ og, gk = og + 1 := ⟨gk - 1, by omega⟩
        have c0 := H.out.rep.cellT
        have b0 := H.out.rep.c0 k hlt
        cases hA : T k with
        | some m =>
          rw [(H.out.ties.sok k m hA).is] at b0
          have HF2 : Hid (∀ j, 1 ≤ j → j < k + 1 → T j ≠ none) := Hd (fun j h1 h2 => by
           by_cases e : j = k
           · subst e; rw [hA]; exact fun e => by cases e
           · exact HF.out j h1 (by omega))
          clear hA
          go_wp2
          go_roundg og
          case measure => omega
          case rel => exact ⟨k + 1, by omega, by omega, by go_num, rfl, HF2⟩
        | none =>
          rw [(H.out.ties.nok k hlt hA).1] at b0
          have HA := Hd hA
          clear hA
          go_wp2_with fail
          have hX := aQ wr (.cells #[.bool true, .int .i64 1, .int .i64 mo, .int .i64 o, .int .i64 g, .int .i64 0, .int .i64 1, .int .i64 (k : Int), .string ⟨#[]⟩, .slice none 0 0] 112)
          have hbw : Below wr.heap.size wr ((wr.alloc (.cells #[.bool true, .int .i64 1, .int .i64 mo, .int .i64 o, .int .i64 g, .int .i64 0, .int .i64 1, .int .i64 (k : Int), .string ⟨#[]⟩, .slice none 0 0] 112)).drew) := ((Below.refl _ _).alloc (Nat.le_refl _) _).drew
          change ((wr.alloc (.cells #[.bool true, .int .i64 1, .int .i64 mo, .int .i64 o, .int .i64 g, .int .i64 0, .int .i64 1, .int .i64 (k : Int), .string ⟨#[]⟩, .slice none 0 0] 112)).drew).heap[wr.heap.size]? = _ at hX
          refine wp_region_still_tail 7 (by kernel_rfl) (by kernel_rfl) ?_
          change wpStill _ _ ((wr.alloc (.cells #[.bool true, .int .i64 1, .int .i64 mo, .int .i64 o, .int .i64 g, .int .i64 0, .int .i64 1, .int .i64 (k : Int), .string ⟨#[]⟩, .slice none 0 0] 112)).drew) (fun a' => wpList _ _ _ _ a' ((wr.alloc (.cells #[.bool true, .int .i64 1, .int .i64 mo, .int .i64 o, .int .i64 g, .int .i64 0, .int .i64 1, .int .i64 (k : Int), .string ⟨#[]⟩, .slice none 0 0] 112)).drew)) _ _
          generalize ((wr.alloc (.cells #[.bool true, .int .i64 1, .int .i64 mo, .int .i64 o, .int .i64 g, .int .i64 0, .int .i64 1, .int .i64 (k : Int), .string ⟨#[]⟩, .slice none 0 0] 112)).drew) = W at *
          clear c0 b0
          have c0 := (H.out.rep.below hbw).cellT
          have x0 : W.cell? ⟨wr.heap.size, 0, none⟩ = some (.bool true) := cO hX 0
          have x1 : W.cell? ⟨wr.heap.size, 1, none⟩ = some (.int .i64 1) := cO hX 1
          have x2 : W.cell? ⟨wr.heap.size, 2, none⟩ = some (.int .i64 mo) := cO hX 2
          have x3 : W.cell? ⟨wr.heap.size, 3, none⟩ = some (.int .i64 o) := cO hX 3
          have x4 : W.cell? ⟨wr.heap.size, 4, none⟩ = some (.int .i64 g) := cO hX 4
          have x5 : W.cell? ⟨wr.heap.size, 5, none⟩ = some (.int .i64 0) := cO hX 5
          have x6 : W.cell? ⟨wr.heap.size, 6, none⟩ = some (.int .i64 1) := cO hX 6
          have x7 : W.cell? ⟨wr.heap.size, 7, none⟩ = some (.int .i64 (k : Int)) := cO hX 7
          have x8 : W.cell? ⟨wr.heap.size, 8, none⟩ = some (.string ⟨#[]⟩) := cO hX 8
          have x9 : W.cell? ⟨wr.heap.size, 9, none⟩ = some (.slice none 0 0) := cO hX 9
          have HBW := Hd hbw
          have hT : W.there B (k * 10) 10 := (H.out.rep.below hbw).there hlt
          have hI : (Tryz.prog.info? 112).map (·.size) = some 10 := rfl
          clear hX hbw
          have n1 : k < 201 := by omega
          have n2 : (k : Int) < 201 := by omega
          simp only [List.take_succ_cons, List.take_zero, List.drop_succ_cons, List.drop_zero]
          repeat still_step
          refine wpStill_nil ?_
          have HS := Hd (make_stf H.out HBW.out HBAD.out hk1 hlt HA.out HF.out)
          refine wpList_store_mid rfl 112 _ _ rfl B (k * 10) (makeR 1 mo o g tty k).cells.toArray rfl rfl hT hI (by simp [RN.cells, makeR, Value.oneCell']) ?_
          have HS2 : Hid (Stf wr t B (fun T' => IT.isMake rt T 1 mo o g tty k 0 T') (World.setCells W B (k * 10) (makeR 1 mo o g tty k).cells.toArray.toList)) := HS
          generalize World.setCells W B (k * 10) (makeR 1 mo o g tty k).cells.toArray.toList = W5 at HS2 ⊢
          clear HS hT hI
          go_wp2
          go_ret2
          exact ⟨k, 0, rfl, HS2.out⟩
      · obtain rfl : k = 201 := by omega
        have HS := Hd (make_full H.out HBAD.out HF.out)
        clear hlt
        go_wp2
        go_ret2
        exact ⟨0, 9, rfl, HS.out⟩
   · go_enter Tryz.func120, Tryz.ntmps120
     go_wp2_with fail
     refine HR.out.mono ?_
     rintro e w2 ⟨rfl, rfl⟩
     go_wp2_with fail
     refine HO.out.mono ?_
     rintro e w2 ⟨rfl, rfl⟩
     go_wp2_with fail
     refine HG.out.mono ?_
     rintro e w2 ⟨rfl, rfl⟩
     go_wp2
     go_loopg [15] 200 (fun gg iv wr => ∃ k : Nat, 1 ≤ k ∧ k + gg = 201 ∧ iv = .int .i64 (k : Int) ∧ wr = w ∧ Hid (∀ j, 1 ≤ j → j < k → T j ≠ none))
     case atStart => exact ⟨1, by omega, by omega, rfl, rfl, Hd (fun j h1 h2 => by omega)⟩
     case round =>
      obtain ⟨k, hk1, hkg, rfl, rfl, HF⟩ := hrel
      by_cases hlt : k ≤ 200
      · obtain ⟨og, rfl⟩ : ∃ og, gk = og + 1 := ⟨gk - 1, by omega⟩
        have c0 := H.out.rep.cellT
        have b0 := H.out.rep.c0 k hlt
        cases hA : T k with
        | some m =>
          rw [(H.out.ties.sok k m hA).is] at b0
          have HF2 : Hid (∀ j, 1 ≤ j → j < k + 1 → T j ≠ none) := Hd (fun j h1 h2 => by
           by_cases e : j = k
           · subst e; rw [hA]; exact fun e => by cases e
           · exact HF.out j h1 (by omega))
          clear hA
          go_wp2
          go_roundg og
          case measure => omega
          case rel => exact ⟨k + 1, by omega, by omega, by go_num, rfl, HF2⟩
        | none =>
          rw [(H.out.ties.nok k hlt hA).1] at b0
          have HA := Hd hA
          clear hA
          go_wp2_with fail
          have hX := aQ wr (.cells #[.bool true, .int .i64 2, .int .i64 mo, .int .i64 o, .int .i64 g, .int .i64 tty, .int .i64 1, .int .i64 0, .string ⟨#[]⟩, .slice none 0 0] 112)
          have hbw : Below wr.heap.size wr ((wr.alloc (.cells #[.bool true, .int .i64 2, .int .i64 mo, .int .i64 o, .int .i64 g, .int .i64 tty, .int .i64 1, .int .i64 0, .string ⟨#[]⟩, .slice none 0 0] 112)).drew) := ((Below.refl _ _).alloc (Nat.le_refl _) _).drew
          change ((wr.alloc (.cells #[.bool true, .int .i64 2, .int .i64 mo, .int .i64 o, .int .i64 g, .int .i64 tty, .int .i64 1, .int .i64 0, .string ⟨#[]⟩, .slice none 0 0] 112)).drew).heap[wr.heap.size]? = _ at hX
          refine wp_region_still_tail 7 (by kernel_rfl) (by kernel_rfl) ?_
          change wpStill _ _ ((wr.alloc (.cells #[.bool true, .int .i64 2, .int .i64 mo, .int .i64 o, .int .i64 g, .int .i64 tty, .int .i64 1, .int .i64 0, .string ⟨#[]⟩, .slice none 0 0] 112)).drew) (fun a' => wpList _ _ _ _ a' ((wr.alloc (.cells #[.bool true, .int .i64 2, .int .i64 mo, .int .i64 o, .int .i64 g, .int .i64 tty, .int .i64 1, .int .i64 0, .string ⟨#[]⟩, .slice none 0 0] 112)).drew)) _ _
          generalize ((wr.alloc (.cells #[.bool true, .int .i64 2, .int .i64 mo, .int .i64 o, .int .i64 g, .int .i64 tty, .int .i64 1, .int .i64 0, .string ⟨#[]⟩, .slice none 0 0] 112)).drew) = W at *
          clear c0 b0
          have c0 := (H.out.rep.below hbw).cellT
          have x0 : W.cell? ⟨wr.heap.size, 0, none⟩ = some (.bool true) := cO hX 0
          have x1 : W.cell? ⟨wr.heap.size, 1, none⟩ = some (.int .i64 2) := cO hX 1
          have x2 : W.cell? ⟨wr.heap.size, 2, none⟩ = some (.int .i64 mo) := cO hX 2
          have x3 : W.cell? ⟨wr.heap.size, 3, none⟩ = some (.int .i64 o) := cO hX 3
          have x4 : W.cell? ⟨wr.heap.size, 4, none⟩ = some (.int .i64 g) := cO hX 4
          have x5 : W.cell? ⟨wr.heap.size, 5, none⟩ = some (.int .i64 tty) := cO hX 5
          have x6 : W.cell? ⟨wr.heap.size, 6, none⟩ = some (.int .i64 1) := cO hX 6
          have x7 : W.cell? ⟨wr.heap.size, 7, none⟩ = some (.int .i64 0) := cO hX 7
          have x8 : W.cell? ⟨wr.heap.size, 8, none⟩ = some (.string ⟨#[]⟩) := cO hX 8
          have x9 : W.cell? ⟨wr.heap.size, 9, none⟩ = some (.slice none 0 0) := cO hX 9
          have HBW := Hd hbw
          have hT : W.there B (k * 10) 10 := (H.out.rep.below hbw).there hlt
          have hI : (Tryz.prog.info? 112).map (·.size) = some 10 := rfl
          clear hX hbw
          have n1 : k < 201 := by omega
          have n2 : (k : Int) < 201 := by omega
          simp only [List.take_succ_cons, List.take_zero, List.drop_succ_cons, List.drop_zero]
          repeat still_step
          refine wpStill_nil ?_
          have HS := Hd (make_stf H.out HBW.out HBAD.out hk1 hlt HA.out HF.out)
          refine wpList_store_mid rfl 112 _ _ rfl B (k * 10) (makeR 2 mo o g tty k).cells.toArray rfl rfl hT hI (by simp [RN.cells, makeR, Value.oneCell']) ?_
          have HS2 : Hid (Stf wr t B (fun T' => IT.isMake rt T 2 mo o g tty k 0 T') (World.setCells W B (k * 10) (makeR 2 mo o g tty k).cells.toArray.toList)) := HS
          generalize World.setCells W B (k * 10) (makeR 2 mo o g tty k).cells.toArray.toList = W5 at HS2 ⊢
          clear HS hT hI
          go_wp2
          go_ret2
          exact ⟨k, 0, rfl, HS2.out⟩
      · obtain rfl : k = 201 := by omega
        have HS := Hd (make_full H.out HBAD.out HF.out)
        clear hlt
        go_wp2
        go_ret2
        exact ⟨0, 9, rfl, HS.out⟩
theorem own_ge {w : World} {base : Nat} {e : TypeId} {sz n : Nat} {v : Value} {xs : List Value} (h : w.ownsRow base e sz v n xs) : ∀ k, v.ownBlock = some k → base ≤ k := by
 intro k hk
 obtain ⟨_, ⟨rfl, h0⟩ | ⟨g, cap, cur, rfl, hb, _⟩⟩ := h
 · cases hk
 · cases hk; exact hb
theorem step_app_at {P : Program} {w : World} {ops : Array Oper} {o : Oper} {a : Act} {K : Act → World → Prop} {Q : Exit → Act → World → Prop} {E : Prop} (hgd : o.guard = none) (s x : Operand) (t : TypeId)
  (ho : o.op = .call { callee := .builtin .append, args := #[s, x], argTypes := #[t, t] })
  (base : Nat) (e : TypeId) (i : TypeInfo) (z : Value) (bytes : Nat) (ht : P.underlying t = some (.slice e)) (hi : P.info? e = some i) (hz : i.zero = some z)
  (hsize : i.size = 2) (hby : i.bytes = bytes) (hzs : z.cells.size = 2)
  (v : Value) (n : Nat) (xs : List Value) (hs : a.eval s = v) (hown : w.ownsRow base e 2 v n xs)
  (ad : Addr) (m c : Nat) (news : List Value) (hx : a.eval x = .slice (some ad) m c) (hl : news.length = m * 2) (hnews : ∀ j u, news[j]? = some u → w.cell? (ad.add j) = some u) (h1 : ∀ u ∈ news, u.oneCell' = true)
  (h63 : n + m ≤ maxLen) (hbytes : (n + m) * bytes ≤ 140737488355328) (hbase : base ≤ w.heap.size)
  (h : ∀ v' w', w'.ownsRow base e 2 v' (n + m) (xs ++ news) → w.grownBy w' v.ownBlock → Below base w w' → K (a.put o.dst v') w') :
  if Region.wanted o (yielded ops a.tmps) = true then Oper.wp P o a w K Q else E := by
 have hw : Region.wanted o (yielded ops a.tmps) = true := by simp [Region.wanted, hgd]
 rw [if_pos hw]
 obtain ⟨v', w', hr, h2, h3, _⟩ := run_append_own_at (P := P) w base t o.type e i z 2 bytes ht hi hz hsize hby hzs (by decide) v n xs hown ad m c news hl hnews h1 h63 hbytes hbase
 unfold Oper.wp execOp
 simp only [ho, resolve, invoke, builtin, Sem.run_bind, Sem.run_pure, Result.andThen_ok, List.map_toArray, List.map_cons, List.map_nil, hs, hx, hr]
 exact h v' w' h2 h3 ((Below.refl _ _).grown h3 hbase (own_ge hown))
theorem own_slice {w : World} {base : Nat} {e : TypeId} {sz n : Nat} {v : Value} {xs : List Value} (h : w.ownsRow base e sz v n xs) : ∃ a n' cap, v = .slice a n' cap := by
 obtain ⟨_, ⟨rfl, h0⟩ | ⟨g, cap, cur, rfl, hb, _⟩⟩ := h
 · exact ⟨none, 0, 0, rfl⟩
 · exact ⟨_, _, _, rfl⟩
theorem flatE_take : ∀ (l : List (ByteArray × Nat)) (i : Nat), flatE (l.take i) = (flatE l).take (i * 2)
 | _, 0 => by simp [flatE]
 | [], i + 1 => by simp [flatE]
 | p :: l, i + 1 => by
   have ih := flatE_take l i
   unfold flatE at ih ⊢
   rw [List.take_succ_cons, List.flatMap_cons, List.flatMap_cons, ih, show (i + 1) * 2 = i * 2 + 1 + 1 by omega]
   rfl
theorem flatE_drop : ∀ (l : List (ByteArray × Nat)) (i : Nat), flatE (l.drop i) = (flatE l).drop (i * 2)
 | _, 0 => by simp [flatE]
 | [], i + 1 => by simp [flatE]
 | p :: l, i + 1 => by
   have ih := flatE_drop l i
   unfold flatE at ih ⊢
   rw [List.drop_succ_cons, List.flatMap_cons, ih, show (i + 1) * 2 = i * 2 + 1 + 1 by omega]
   rfl
theorem ent_of {w : World} {base n : Nat} {v : Value} {xs : List Value} (h : w.ownsRow base 148 2 v n xs) (m : RN) (l : List (ByteArray × Nat)) (hn : n = l.length) (hx : xs = flatE l) : EntAt w { m with sl := v, ents := l } := by
 subst hn; subst hx
 obtain ⟨h1, h2⟩ := h
 refine ⟨h1, ?_⟩
 rcases h2 with h2 | ⟨g, cap, cur, e1, _, e3⟩
 · exact .inl h2
 · exact .inr ⟨g, cap, cur, e1, Nat.zero_le _, e3⟩
theorem info_entry : (Tryz.prog.info? 148).map (fun i => (i.zero, i.size, i.bytes)) = some (some (.agg #[.string ⟨#[]⟩, .int .i64 0]), 2, 24) := by kernel_rfl
theorem own_empty (w : World) (e : TypeId) (base B : Nat) (hB : w.heap.size = B) (hb : base ≤ w.heap.size) : (w.alloc (.cells #[] e)).ownsRow base e 2 (.slice (some ⟨B, 0, none⟩) 0 0) 0 [] :=
 hB ▸ ⟨rfl, .inr ⟨w.heap.size, 0, #[], rfl, hb, aQ _ _, Nat.le_refl _, by decide, rfl, rfl⟩⟩
theorem cells_take {w : World} {n : RN} (h : EntAt w n) {g cap : Nat} (hs : n.sl = .slice (some ⟨g, 0, none⟩) n.ents.length cap) (i : Nat) : ∀ j u, ((flatE n.ents).drop i)[j]? = some u → w.cell? (Addr.add ⟨g, i, none⟩ j) = some u := by
 obtain ⟨h1, h2⟩ := h
 intro j u hu
 rw [List.getElem?_drop] at hu
 have ha : Addr.add ⟨g, i, none⟩ j = ⟨g, i + j, none⟩ := by
  by_cases h : j = 0
  · subst h; simp [Addr.add]
  · simp [Addr.add, h]
 rw [ha]
 rcases h2 with ⟨e1, e2⟩ | ⟨g2, cap2, cur, e1, e2, e3, e4, e5, e6, e7⟩
 · rw [hs] at e1; cases e1
 · rw [hs] at e1
   obtain ⟨rfl, rfl⟩ : g = g2 ∧ cap = cap2 := by
    have := Value.slice.inj e1
    exact ⟨by have := this.1; simp at this; exact this, this.2.2⟩
   rw [cO e3]
   rw [← e7] at hu
   have hlt : i + j < n.ents.length * 2 := by
    have := (List.getElem?_eq_some_iff.1 hu).1
    rw [List.length_take] at this; omega
   rw [List.getElem?_take_of_lt hlt] at hu
   simpa using hu
def valAt (W : World) (a : Addr) : Value := (W.cell? a).getD undef
theorem valAt_some {W : World} {a : Addr} {v : Value} (h : W.cell? a = some v) : W.cell? a = some (valAt W a) := by unfold valAt; rw [h]; rfl
def Sx (w : World) (t B off : Nat) (W : World) : Prop := Mo B w W ∧ W.cell? ⟨t, 0, none⟩ = some (.slice (some ⟨B, 0, none⟩) 201 201) ∧ W.cell? ⟨B, off, none⟩ = some (valAt W ⟨B, off, none⟩) ∧ W.frozen? ⟨B, off, none⟩ = false
theorem Mo.grow {B : Nat} {w W W' : World} (h : Mo B w W) (hb : Below w.heap.size W W') : Mo B w W' :=
 ⟨hb.os.trans h.os, hb.tape.trans h.tape, hb.output.trans h.output, Nat.le_trans h.size hb.size, fun k hk hB => (hb.block k hk).trans (h.block k hk hB)⟩
theorem Sx.start {w : World} {t B : Nat} {G : Gt} (h : Rf w t B G) {off : Nat} {v : Value} (hc : w.cell? ⟨B, off, none⟩ = some v) : Sx w t B off w := ⟨Mo.refl _ _, h.cellT, valAt_some hc, h.frozen off⟩
theorem Sx.below {w W W' : World} {t B off : Nat} (hb : Below w.heap.size W W') (ht : t < w.heap.size) (hB : B < w.heap.size) (h : Sx w t B off W) : Sx w t B off W' := by
 obtain ⟨h1, h2, h3, h4⟩ := h
 refine ⟨h1.grow hb, ?_, ?_, ?_⟩
 · rw [hb.cell (p := ⟨t, 0, none⟩) ht]; exact h2
 · exact valAt_some (by rw [hb.cell (p := ⟨B, off, none⟩) hB]; exact h3)
 · rw [hb.frozen (p := ⟨B, off, none⟩) hB]; exact h4
theorem Sx.set {w W : World} {t B off : Nat} (hne : t ≠ B) (h : Sx w t B off W) (v : Value) : Sx w t B off (W.setCell ⟨B, off, none⟩ v) := by
 obtain ⟨h1, h2, h3, h4⟩ := h
 refine ⟨h1.set _, ?_, valAt_some (v := v) ?_, ?_⟩
 · rw [World.cell?_setCell_far _ _ _ _ (Ne.symm hne)]; exact h2
 · exact World.cell?_setCell_same _ _ _ h3
 · rw [World.frozen?_setCell]; exact h4
def WoP (w : World) (t B : Nat) (G : Gt) (k i : Nat) (w' : World) : Prop := ∃ v, Rf w' t B (updG G k { G k with sl := v, ents := (G k).ents.take i ++ (G k).ents.drop (i + 1) }) ∧ Mo B w w'
theorem rf_without {w : World} {t B : Nat} {G : Gt} (h : Rf w t B G) (k i : Nat) (hk : k ≤ 200) (hi : i < (G k).ents.length) (h40 : (G k).ents.length ≤ 40) :
  Calls Tryz.prog 122 #[.pointer (some ⟨t, 0, none⟩), .int .i64 (k : Int), .int .i64 (i : Int)] w fun e w' => e = .returned (.tuple #[]) ∧ WoP w t B G k i w' := by
 have c0 := h.cellT
 have b9 := h.c9 k hk
 have hent := h.ents k hk
 obtain ⟨a, cap, hs, hl1, hl2, hl3⟩ := hent.lit
 obtain ⟨g, rfl, _, _⟩ := hl3 i _ (List.getElem?_eq_getElem hi)
 rw [hs] at b9
 have H := Hd h
 have HENT := Hd hent
 have HSL := Hd hs
 have hcap : cap ≤ 9223372036854775807 := by unfold maxLen at hl2; omega
 have hBL := h.ltB
 have hTL := h.ltT
 obtain ⟨E, hE⟩ : ∃ E, E = (G k).ents := ⟨_, rfl⟩
 rw [← hE] at hi h40 hl1 b9
 obtain ⟨L, hL⟩ : ∃ L, L = E.length := ⟨_, rfl⟩
 rw [← hL] at hi h40 hl1 b9
 have HE := Hd hE
 have HL := Hd hL
 have n1 : k < 201 := by omega
 have n2 : (k : Int) < 201 := by omega
 have i1 : (i : Int) + 1 ≤ L := by omega
 have i2 : (i : Int) ≤ cap := by omega
 have i3 : (L : Int) ≤ cap := by omega
 have s9 := h.frozen (k * 10 + 9)
 obtain ⟨i0, hi0, hz0, hz1, hz2⟩ := info_parts info_entry
 have KP : ∀ W', Below w.heap.size w W' → W'.cell? ⟨t, 0, none⟩ = some (.slice (some ⟨B, 0, none⟩) 201 201) ∧ W'.cell? ⟨B, k * 10 + 9, none⟩ = some (.slice (some ⟨g, 0, none⟩) L cap) ∧ W'.frozen? ⟨B, k * 10 + 9, none⟩ = false := fun W' hb => ⟨(H.out.below hb).cellT, by rw [(H.out.below hb).c9 k hk, HSL.out, HL.out, HE.out], (H.out.below hb).frozen _⟩
 clear h hent hs hl2 hl3 hE hL
 have HKP := Hd KP
 clear KP
 have HN1 : Hid (∀ W', Mo B w W' → ∀ j u, ((flatE E).take (i * 2))[j]? = some u → W'.cell? (Addr.add ⟨g, 0, none⟩ j) = some u) := Hd (fun W' hb j u hu => by
  have h2 := cells_take (HENT.out.same (w' := W') fun g C f hg => hb.block g (lH hg) (fun e => by subst e; have := hg.symm.trans H.out.row; simp at this)) HSL.out 0 j u
  rw [← HE.out, List.drop_zero] at h2
  refine h2 ?_
  rw [List.getElem?_take] at hu
  split at hu
  · exact hu
  · cases hu)
 have HN2 : Hid (∀ W', Mo B w W' → ∀ j u, ((flatE E).drop ((i + 1) * 2))[j]? = some u → W'.cell? (Addr.add ⟨g, (i + 1) * 2, none⟩ j) = some u) := Hd (fun W' hb j u hu => by
  have h2 := cells_take (HENT.out.same (w' := W') fun g C f hg => hb.block g (lH hg) (fun e => by subst e; have := hg.symm.trans H.out.row; simp at this)) HSL.out ((i + 1) * 2) j u
  rw [← HE.out] at h2
  exact h2 hu)
 by_cases hic : i + 1 = cap
 · have hnil : (flatE E).drop ((i + 1) * 2) = [] := List.drop_of_length_le (by rw [flatE_len, ← HL.out]; omega)
   have HNIL := Hd hnil
   obtain rfl : L = i + 1 := by omega
   obtain rfl : cap = i + 1 := by omega
   have w1 : IntKind.i64.wrap ((i : Int) + 1) = (i : Int) + 1 := IntWalk.i64_in _ (by omega)
   have w2 : (0 : Int) ≤ (i : Int) + 1 := by omega
   have w3 : ((i : Int) + 1).toNat = i + 1 := by omega
   have w4 : (0 : Int) ≤ (i : Int) := by omega
   have w5 : (i : Int) ≤ (i : Int) + 1 := by omega
   clear hnil hic i1 i2 i3
   go_enter Tryz.func122, Tryz.ntmps122
   go_wp2_with fail
   have hTB := H.out.ne
   go_region_held3 (fun W' => Mo B w W' ∧ W'.cell? ⟨t, 0, none⟩ = some (.slice (some ⟨B, 0, none⟩) 201 201) ∧ W'.cell? ⟨B, k * 10 + 9, none⟩ = some (valAt W' ⟨B, k * 10 + 9, none⟩) ∧ W'.frozen? ⟨B, k * 10 + 9, none⟩ = false)
    (first
      | exact Sx.below (Below.refl _ _).drew hTL hBL (Sx.start H.out (H.out.c9 k hk))
      | exact Sx.below hbel8 hTL hBL ‹Mo B w _ ∧ _›
      | exact Sx.below hbel5 hTL hBL ‹Mo B w _ ∧ _›
      | exact Sx.set hTB ‹Mo B w _ ∧ _› _
      | exact Sx.below ((Below.refl _ _).alloc (‹Mo B w _ ∧ _›).1.size _) hTL hBL ‹Mo B w _ ∧ _›)
    (first
      | (refine step_app_at rfl (.tmp 20) (.tmp 23) 110 rfl w.heap.size 148 i0 (.agg #[.string ⟨#[]⟩, .int .i64 0]) 24 Tryz.underlying110 hi0 hz0 hz1 hz2 rfl (.slice (some ⟨w.heap.size, 0, none⟩) 0 0) 0 [] ?_ ?_ ⟨g, 0, none⟩ i (i + 1) ((flatE E).take (i * 2)) ?_ ?_ ?_ ?_ ?_ ?_ ?_ ?_
         · simp [Act.eval, Act.put]; done
         · exact (own_empty w _ _ _ rfl (Nat.le_refl _)).drew
         · simp [Act.eval, Act.put]; done
         · exact by rw [List.length_take, flatE_len, ← HL.out]; omega
         · exact HN1.out _ (‹Mo B w _ ∧ _›).1
         · exact fun u hu => flatE_one _ u (List.mem_of_mem_take hu)
         · unfold maxLen; omega
         · omega
         · exact (‹Mo B w _ ∧ _›).1.size
         intro v5 w5 hown5 hgrow5 hbel5
         have hB5 : Below w.heap.size w w5 := Below.trans (((Below.refl _ _).alloc (Nat.le_refl _) _).drew) hbel5)
      | (refine step_app_at rfl (.tmp 24) (.tmp 28) 110 rfl w.heap.size 148 i0 (.agg #[.string ⟨#[]⟩, .int .i64 0]) 24 Tryz.underlying110 hi0 hz0 hz1 hz2 rfl v5 (0 + i) ([] ++ (flatE E).take (i * 2)) ?_ ?_ ⟨g, 0, none⟩ ((i + 1) - (i + 1)) ((i + 1) - (i + 1)) ((flatE E).drop ((i + 1) * 2)) ?_ ?_ ?_ ?_ ?_ ?_ ?_ ?_
         · simp [Act.eval, Act.put]; done
         · exact hown5
         · simp [Act.eval, Act.put]; done
         · exact by rw [List.length_drop, flatE_len, ← HL.out]; omega
         · exact fun j u hu => by rw [HNIL.out] at hu; cases hu
         · exact fun u hu => flatE_one _ u (List.mem_of_mem_drop hu)
         · unfold maxLen; omega
         · omega
         · exact (‹Mo B w _ ∧ _›).1.size
         intro v8 w8 hown8 hgrow8 hbel8
         have hB8 : Below w.heap.size w w8 := hB5.trans hbel8
         obtain ⟨a8, n8, c8, rfl⟩ := own_slice hown8))
   all_goals
    have hRF := Hd ((H.out.below hB8).set hk (show 9 < 10 by omega) (.slice a8 n8 c8) { G k with sl := .slice a8 n8 c8, ents := E.take i ++ E.drop (i + 1) } rfl (ent_of hown8 (G k) (E.take i ++ E.drop (i + 1)) (by rw [List.length_append, List.length_take, List.length_drop, ← HL.out]; omega) (by rw [flatE_app, flatE_take, flatE_drop, List.nil_append])))
    have hMO := Hd ((Mo.of (b := B) hB8).set (i := k * 10 + 9) (.slice a8 n8 c8))
    clear hown8 hgrow8 hbel8 hB8 hown5 hgrow5 hbel5 hB5
    go_wp2
    refine bodyPost_end (results_none rfl _ _ _) rfl ⟨rfl, .slice a8 n8 c8, ?_, ?_⟩
    · rw [← HE.out]; exact hRF.out
    · exact hMO.out
 · have j1 : (i : Int) + 1 < cap := by omega
   have j2 : i + 1 < cap := by omega
   have j3 : ¬ cap = i + 1 := by omega
   have w1 : IntKind.i64.wrap ((i : Int) + 1) = (i : Int) + 1 := IntWalk.i64_in _ (by omega)
   have w2 : (0 : Int) ≤ (i : Int) + 1 := by omega
   have w3 : ((i : Int) + 1).toNat = i + 1 := by omega
   have w4 : (0 : Int) ≤ (i : Int) := by omega
   clear hic
   go_enter Tryz.func122, Tryz.ntmps122
   go_wp2_with fail
   have hTB := H.out.ne
   go_region_held3 (fun W' => Mo B w W' ∧ W'.cell? ⟨t, 0, none⟩ = some (.slice (some ⟨B, 0, none⟩) 201 201) ∧ W'.cell? ⟨B, k * 10 + 9, none⟩ = some (valAt W' ⟨B, k * 10 + 9, none⟩) ∧ W'.frozen? ⟨B, k * 10 + 9, none⟩ = false)
    (first
      | exact Sx.below (Below.refl _ _).drew hTL hBL (Sx.start H.out (H.out.c9 k hk))
      | exact Sx.below hbel8 hTL hBL ‹Mo B w _ ∧ _›
      | exact Sx.below hbel5 hTL hBL ‹Mo B w _ ∧ _›
      | exact Sx.set hTB ‹Mo B w _ ∧ _› _
      | exact Sx.below ((Below.refl _ _).alloc (‹Mo B w _ ∧ _›).1.size _) hTL hBL ‹Mo B w _ ∧ _›)
    (first
      | (refine step_app_at rfl (.tmp 20) (.tmp 23) 110 rfl w.heap.size 148 i0 (.agg #[.string ⟨#[]⟩, .int .i64 0]) 24 Tryz.underlying110 hi0 hz0 hz1 hz2 rfl (.slice (some ⟨w.heap.size, 0, none⟩) 0 0) 0 [] ?_ ?_ ⟨g, 0, none⟩ i cap ((flatE E).take (i * 2)) ?_ ?_ ?_ ?_ ?_ ?_ ?_ ?_
         · simp [Act.eval, Act.put]; done
         · exact (own_empty w _ _ _ rfl (Nat.le_refl _)).drew
         · simp [Act.eval, Act.put]; done
         · exact by rw [List.length_take, flatE_len, ← HL.out]; omega
         · exact HN1.out _ (‹Mo B w _ ∧ _›).1
         · exact fun u hu => flatE_one _ u (List.mem_of_mem_take hu)
         · unfold maxLen; omega
         · omega
         · exact (‹Mo B w _ ∧ _›).1.size
         intro v5 w5 hown5 hgrow5 hbel5
         have hB5 : Below w.heap.size w w5 := Below.trans (((Below.refl _ _).alloc (Nat.le_refl _) _).drew) hbel5)
      | (refine step_app_at rfl (.tmp 24) (.tmp 28) 110 rfl w.heap.size 148 i0 (.agg #[.string ⟨#[]⟩, .int .i64 0]) 24 Tryz.underlying110 hi0 hz0 hz1 hz2 rfl v5 (0 + i) ([] ++ (flatE E).take (i * 2)) ?_ ?_ ⟨g, (i + 1) * 2, none⟩ (L - (i + 1)) (cap - (i + 1)) ((flatE E).drop ((i + 1) * 2)) ?_ ?_ ?_ ?_ ?_ ?_ ?_ ?_
         · simp [Act.eval, Act.put]; done
         · exact hown5
         · simp [Act.eval, Act.put]; done
         · exact by rw [List.length_drop, flatE_len, ← HL.out]; omega
         · exact HN2.out _ (‹Mo B w _ ∧ _›).1
         · exact fun u hu => flatE_one _ u (List.mem_of_mem_drop hu)
         · unfold maxLen; omega
         · omega
         · exact (‹Mo B w _ ∧ _›).1.size
         intro v8 w8 hown8 hgrow8 hbel8
         have hB8 : Below w.heap.size w w8 := hB5.trans hbel8
         obtain ⟨a8, n8, c8, rfl⟩ := own_slice hown8))
   all_goals
    have hRF := Hd ((H.out.below hB8).set hk (show 9 < 10 by omega) (.slice a8 n8 c8) { G k with sl := .slice a8 n8 c8, ents := E.take i ++ E.drop (i + 1) } rfl (ent_of hown8 (G k) (E.take i ++ E.drop (i + 1)) (by rw [List.length_append, List.length_take, List.length_drop, ← HL.out]; omega) (by rw [flatE_app, flatE_take, flatE_drop, List.nil_append])))
    have hMO := Hd ((Mo.of (b := B) hB8).set (i := k * 10 + 9) (.slice a8 n8 c8))
    clear hown8 hgrow8 hbel8 hB8 hown5 hgrow5 hbel5 hB5
    go_wp2
    refine bodyPost_end (results_none rfl _ _ _) rfl ⟨rfl, .slice a8 n8 c8, ?_, ?_⟩
    · rw [← HE.out]; exact hRF.out
    · exact hMO.out
theorem run_app_row2 {P : Program} (w : World) (t ty : TypeId) (base : Nat) (e : TypeId) (i : TypeInfo) (z : Value) (bytes : Nat) (ht : P.underlying t = some (.slice e)) (hi : P.info? e = some i) (hz : i.zero = some z)
  (hsize : i.size = 2) (hby : i.bytes = bytes) (hzs : z.cells.size = 2)
  (v : Value) (n : Nat) (xs : List Value) (hown : w.ownsRow base e 2 v n xs)
  (bu : Nat) (u : Value) (m : Nat) (news : List Value) (hu : w.ownsRow bu e 2 u m news) (h1 : ∀ u ∈ news, u.oneCell' = true)
  (h63 : n + m ≤ maxLen) (hbytes : (n + m) * bytes ≤ 140737488355328) (hbase : base ≤ w.heap.size) :
  ∃ v' w', (Builtin.append_ #[t, t] ty #[v, u]).run P w = .ok v' w' ∧ w'.ownsRow base e 2 v' (n + m) (xs ++ news) ∧ w.grownBy w' v.ownBlock := by
 rcases hu.2 with ⟨rfl, h0⟩ | ⟨g, cap, cur, rfl, hb, hh, hn, hc, hs, htk⟩
 · subst h0
   have hnil : news = [] := List.eq_nil_of_length_eq_zero (by rw [hu.1])
   subst hnil
   exact ⟨v, w, run_append_owned_none (P := P) w base t ty e i 2 ht hi v n xs hown, by simpa using hown, World.grownBy.refl _ _⟩
 · obtain ⟨v', w', hr, h2, h3, _, _⟩ := run_append_own_at (P := P) w base t ty e i z 2 bytes ht hi hz hsize hby hzs (by decide) v n xs hown ⟨g, 0, none⟩ m cap news hu.1 (hu.cells rfl) h1 h63 hbytes hbase
   exact ⟨v', w', hr, h2, h3⟩
theorem aX {P : Program} {w : World} {ops : Array Oper} {o : Oper} {a : Act} {K : Act → World → Prop} {Q : Exit → Act → World → Prop} {E : Prop} (hgd : o.guard = none) (s x : Operand) (t : TypeId)
  (ho : o.op = .call { callee := .builtin .append, args := #[s, x], argTypes := #[t, t] })
  (base : Nat) (e : TypeId) (i : TypeInfo) (z : Value) (bytes : Nat) (ht : P.underlying t = some (.slice e)) (hi : P.info? e = some i) (hz : i.zero = some z)
  (hsize : i.size = 2) (hby : i.bytes = bytes) (hzs : z.cells.size = 2)
  (v : Value) (n : Nat) (xs : List Value) (hs : a.eval s = v) (hown : w.ownsRow base e 2 v n xs)
  (bu : Nat) (u : Value) (m : Nat) (news : List Value) (hx : a.eval x = u) (hu : w.ownsRow bu e 2 u m news) (h1 : ∀ u ∈ news, u.oneCell' = true)
  (h63 : n + m ≤ maxLen) (hbytes : (n + m) * bytes ≤ 140737488355328) (hbase : base ≤ w.heap.size)
  (h : ∀ v' w', w'.ownsRow base e 2 v' (n + m) (xs ++ news) → w.grownBy w' v.ownBlock → Below base w w' → K (a.put o.dst v') w') :
  if Region.wanted o (yielded ops a.tmps) = true then Oper.wp P o a w K Q else E := by
 have hw : Region.wanted o (yielded ops a.tmps) = true := by simp [Region.wanted, hgd]
 rw [if_pos hw]
 obtain ⟨v', w', hr, h2, h3⟩ := run_app_row2 (P := P) w t o.type base e i z bytes ht hi hz hsize hby hzs v n xs hown bu u m news hu h1 h63 hbytes hbase
 unfold Oper.wp execOp
 simp only [ho, resolve, invoke, builtin, Sem.run_bind, Sem.run_pure, Result.andThen_ok, List.map_toArray, List.map_cons, List.map_nil, hs, hx, hr]
 exact h v' w' h2 h3 ((Below.refl _ _).grown h3 hbase (own_ge hown))
theorem _root_.Go.World.ownsRow.below2 {W w : World} {base n : Nat} {e : TypeId} {v : Value} {xs : List Value} (h : W.ownsRow base e 2 v n xs) (hb : Below W.heap.size W w) : w.ownsRow base e 2 v n xs := by
 obtain ⟨h1, ⟨h2, h3⟩ | ⟨g, cap, cur, h2, hg, hh, rest⟩⟩ := h
 · exact ⟨h1, .inl ⟨h2, h3⟩⟩
 · exact ⟨h1, .inr ⟨g, cap, cur, h2, hg, (hb.block g (lH hh)).trans hh, rest⟩⟩
theorem own_one (w : World) (e : TypeId) (B : Nat) (a b : Value) (hB : w.heap.size = B) : (w.alloc (.cells #[a, b] e)).ownsRow 0 e 2 (.slice (some ⟨B, 0, none⟩) 1 1) 1 [a, b] :=
 hB ▸ ⟨rfl, .inr ⟨w.heap.size, 1, #[a, b], rfl, Nat.zero_le _, aQ _ _, Nat.le_refl _, by decide, rfl, rfl⟩⟩
theorem cell_block {w w' : World} {b : Nat} (h : w'.heap[b]? = w.heap[b]?) (i : Nat) : w'.cell? ⟨b, i, none⟩ = w.cell? ⟨b, i, none⟩ := by
 simp [World.cell?, h]
def Sy (w : World) (t B off : Nat) (W : World) : Prop := Mo B w W ∧ W.cell? ⟨t, 0, none⟩ = some (.slice (some ⟨B, 0, none⟩) 201 201) ∧ W.frozen? ⟨B, off, none⟩ = false
theorem Sy.start {w : World} {t B : Nat} {G : Gt} (h : Rf w t B G) (off : Nat) : Sy w t B off w := ⟨Mo.refl _ _, h.cellT, h.frozen off⟩
theorem Sy.below {w W W' : World} {t B off : Nat} (hb : Below w.heap.size W W') (ht : t < w.heap.size) (hB : B < w.heap.size) (h : Sy w t B off W) : Sy w t B off W' := by
 obtain ⟨h1, h2, h4⟩ := h
 refine ⟨h1.grow hb, ?_, ?_⟩
 · rw [hb.cell (p := ⟨t, 0, none⟩) ht]; exact h2
 · rw [hb.frozen (p := ⟨B, off, none⟩) hB]; exact h4
theorem Sy.set {w W : World} {t B off : Nat} (hne : t ≠ B) (h : Sy w t B off W) (v : Value) : Sy w t B off (W.setCell ⟨B, off, none⟩ v) := by
 obtain ⟨h1, h2, h4⟩ := h
 refine ⟨h1.set _, ?_, ?_⟩
 · rw [World.cell?_setCell_far _ _ _ _ (Ne.symm hne)]; exact h2
 · rw [World.frozen?_setCell]; exact h4
theorem EntAt.mo {w W : World} {t B : Nat} {G : Gt} (h : Rf w t B G) {n : RN} (he : EntAt w n) (hm : Mo B w W) : EntAt W n :=
 he.same fun g C f hg => hm.block g (lH hg) (fun e => by subst e; have := hg.symm.trans h.row; simp at this)
end Go.Proofs.YtafonmnfeibaiaaGreat.RF
namespace Go.Proofs.YtafonmnfeibaiaaGreat
open Go.RowKit
theorem sz (s : ByteArray) : s.data.toList.length = s.size := by simp
theorem data_get (s : ByteArray) (j : Nat) (h : j < s.size) : s.data[j]! = s[j] := by
 have h1 : j < s.data.size := h
 rw [getElem!_pos s.data j h1]; rfl
theorem toList_get (s : ByteArray) (j : Nat) (h : j < s.data.toList.length) : s.data.toList[j] = s.data[j]! := by
 have h1 : j < s.data.size := by simpa using h
 rw [getElem!_pos s.data j h1]; simp
theorem contains_idx (l : List UInt8) (c : UInt8) : l.contains c = decide (0 ≤ Lib.indexByte l c) := by
 rw [Bool.eq_iff_iff]
 simp only [List.contains_iff_mem, decide_eq_true_eq]
 constructor
 · intro hm
   have h1 := Lib.indexByte_ge l c
   rcases Int.lt_or_le (Lib.indexByte l c) 0 with h | h
   · obtain ⟨k, hk, he⟩ := List.getElem_of_mem hm
     exact absurd (by rw [List.getElem?_eq_getElem hk, he]) (Lib.indexByte_none (by omega) k)
   · exact h
 · intro h
   obtain ⟨i, hi⟩ : ∃ i : Nat, Lib.indexByte l c = i := ⟨(Lib.indexByte l c).toNat, by omega⟩
   exact List.mem_of_getElem? (Lib.indexByte_some hi).1
theorem nameB_iff (s : ByteArray) : nameB s = true ↔ (¬ s.data.toList = [] ∧ s.size ≤ 14 ∧ ¬ s.data.toList = [46] ∧ ¬ s.data.toList = [46, 46] ∧ plainB s.data.toList = true ∧ 47 ∉ s.data.toList) := by
 simp only [nameB, decide_eq_true_eq]
 have := contains_idx s.data.toList 47
 rw [Bool.eq_iff_iff] at this
 simp only [List.contains_iff_mem, decide_eq_true_eq] at this
 rw [this]
theorem nameB_neg (s : ByteArray) (j : Nat) (hj : j < s.size) (h : s[j].toNat < 32 ∨ s[j].toNat = 127 ∨ s[j].toNat = 47) : nameB s = false := by
 rw [Bool.eq_false_iff]
 intro hn
 obtain ⟨_, _, _, _, hp, hno⟩ := (nameB_iff s).1 hn
 by_cases h1 : s[j].toNat < 32 ∨ s[j].toNat = 127
 · have : okc s[j] = false := by simp [okc]; omega
   rw [plain_bad s j hj this] at hp; cases hp
 · refine hno ?_
   have e : s[j] = 47 := UInt8.toNat_inj.1 (by have e : (47 : UInt8).toNat = 47 := rfl; omega)
   have : s.data.toList[j]'(by rw [sz]; exact hj) = 47 := by rw [toList_get, data_get s j hj, e]
   rw [← this]; exact List.getElem_mem _
theorem rname_any (s : ByteArray) (w : World) :
  Calls Tryz.prog 123 #[.string s] w fun e w' => e = .returned (.bool (nameB s)) ∧ w = w' := by
 by_cases h1 : s.size < 1
 · have HN : Hid (nameB s = false) := Hd (by
    rw [Bool.eq_false_iff]; intro hn
    have := (nameB_iff s).1 hn
    exact this.1 (List.eq_nil_of_length_eq_zero (by rw [sz]; omega)))
   have h11 : (s.size : Int) < 1 := by omega
   go_enter Tryz.func123, Tryz.ntmps123
   go_wp2
   go_ret
   exact ⟨ret_bool HN.out.symm, rfl⟩
 have h11 : ¬ (s.size : Int) < 1 := by omega
 by_cases h2 : 14 < s.size
 · have HN : Hid (nameB s = false) := Hd (by
    rw [Bool.eq_false_iff]; intro hn
    have := (nameB_iff s).1 hn
    omega)
   have h21 : (14 : Int) < s.size := by omega
   go_enter Tryz.func123, Tryz.ntmps123
   go_wp2
   go_ret
   exact ⟨ret_bool HN.out.symm, rfl⟩
 have h21 : ¬ (14 : Int) < s.size := by omega
 by_cases h3 : s.data.toList = [46]
 · have HN : Hid (nameB s = false) := Hd (by
    rw [Bool.eq_false_iff]; intro hn
    exact ((nameB_iff s).1 hn).2.2.1 h3)
   have h31 : s.toList = [46] := by rw [tQ]; exact h3
   clear h3
   go_enter Tryz.func123, Tryz.ntmps123
   go_wp2
   go_ret
   exact ⟨ret_bool HN.out.symm, rfl⟩
 have h31 : (s.toList == [46]) = false := by rw [tQ]; simpa using h3
 by_cases h4 : s.data.toList = [46, 46]
 · have HN : Hid (nameB s = false) := Hd (by
    rw [Bool.eq_false_iff]; intro hn
    exact ((nameB_iff s).1 hn).2.2.2.1 h4)
   have h41 : s.toList = [46, 46] := by rw [tQ]; exact h4
   clear h3 h4
   go_enter Tryz.func123, Tryz.ntmps123
   go_wp2
   go_ret
   exact ⟨ret_bool HN.out.symm, rfl⟩
 have h41 : (s.toList == [46, 46]) = false := by rw [tQ]; simpa using h4
 have H3 := Hd h3
 have H4 := Hd h4
 clear h3 h4
 go_enter Tryz.func123, Tryz.ntmps123
 go_wp2
 go_loop [3] (fun i => ∃ k : Nat, k ≤ s.size ∧ i = .int .i64 k ∧ plainB (s.data.toList.take k) = true ∧ (∀ j (h : j < s.size), j < k → s[j].toNat ≠ 47)) (fun i => s.size - (intOf i).toNat)
 case atStart => exact ⟨0, Nat.zero_le _, rfl, rfl, fun j _ h => by omega⟩
 case round =>
  obtain ⟨k, hk, rfl, hp, hq⟩ := hrel
  have HP := Hd hp
  have HQ := Hd hq
  clear hp hq
  by_cases hlt : k < s.size
  · have HB := Hd (fun h => nameB_neg s k hlt h)
    by_cases g1 : (s[k].toNat : Int) < 32
    · go_wp2
      go_ret
      exact ⟨ret_bool (HB.out (.inl (by omega))).symm, rfl⟩
    by_cases g2 : ((s[k].toNat : Int) == 127) = true
    · go_wp2
      go_ret
      exact ⟨ret_bool (HB.out (.inr (.inl (by simp at g2; omega)))).symm, rfl⟩
    by_cases g3 : ((s[k].toNat : Int) == 47) = true
    · have g2' : ((s[k].toNat : Int) == 127) = false := by simpa using g2
      clear g2
      go_wp2
      go_ret
      exact ⟨ret_bool (HB.out (.inr (.inr (by simp at g3; omega)))).symm, rfl⟩
    have g2' : ((s[k].toNat : Int) == 127) = false := by simpa using g2
    have g3' : ((s[k].toNat : Int) == 47) = false := by simpa using g3
    have HO : Hid (okc s[k] = true) := Hd (by simp at g2' g3'; simp [okc]; omega)
    have HE : Hid (s[k].toNat ≠ 47) := Hd (by simp at g3'; omega)
    clear g2 g3
    go_wp2
    go_round
    case rel =>
     refine ⟨k + 1, by omega, by go_num, by rw [plain_take s k hlt, HP.out, HO.out]; rfl, fun j h hj => ?_⟩
     by_cases e : j = k
     · subst e; exact HE.out
     · exact HQ.out j h (by omega)
    case measure => simp [intOf]; omega
  · have HN : Hid (nameB s = true) := Hd (by
     rw [nameB_iff]
     refine ⟨fun e => ?_, by omega, H3.out, H4.out, by rw [← plain_all s k (by omega)]; exact HP.out, fun hm => ?_⟩
     · have h9 := congrArg List.length e; rw [sz] at h9; have h8 : ([] : List UInt8).length = 0 := rfl; omega
     · obtain ⟨j, hj, he⟩ := List.getElem_of_mem hm
       have hj2 : j < s.size := by rw [← sz]; exact hj
       rw [toList_get, data_get s j hj2] at he
       exact HQ.out j hj2 (by omega) (by rw [he]; rfl))
    go_wp2
    go_ret
    exact ⟨ret_bool HN.out.symm, rfl⟩
theorem rname_ok (s : ByteArray) (w : World) : Calls Tryz.prog 123 #[.string s] w fun e w' => e = .returned (.bool (okN (bs s))) ∧ w = w' := by
 rw [← nameB_ok]; exact rname_any s w
end Go.Proofs.YtafonmnfeibaiaaGreat
namespace Go.Proofs.YtafonmnfeibaiaaGreat.RF
open Go.RowKit
theorem rf_enter_no {w : World} {t B : Nat} {G : Gt} {T : IT.Tr} (h : Trf w t B G T) (d x : Int) (s : ByteArray) (hn : T d.toNat = none ∨ T x.toNat = none) :
  Calls Tryz.prog 100 #[.pointer (some ⟨t, 0, none⟩), .int .i64 d, .string s, .int .i64 x] w fun e w' => e = .returned (.int .i64 3) ∧ w = w' := by
 cases hd : T d.toNat with
 | none =>
   have HI1 := Hd (rf_is_no h d hd)
   have HI2 := Hd (rf_is h.rep x)
   generalize isB G x = q at *
   clear h hd hn
   go_enter Tryz.func100, Tryz.ntmps100
   go_wp2_with fail
   refine HI1.out.mono ?_
   rintro e wz ⟨rfl, rfl⟩
   go_wp2_with fail
   refine HI2.out.mono ?_
   rintro e wz ⟨rfl, rfl⟩
   go_wp2
   all_goals go_ret
   all_goals exact ⟨rfl, rfl⟩
 | some n =>
   have hx : T x.toNat = none := hn.resolve_left (fun e => by rw [hd] at e; cases e)
   have HI1 := Hd (rY h d hd)
   have HI2 := Hd (rf_is_no h x hx)
   clear h hd hn hx
   go_enter Tryz.func100, Tryz.ntmps100
   go_wp2_with fail
   refine HI1.out.mono ?_
   rintro e wz ⟨rfl, rfl⟩
   go_wp2_with fail
   refine HI2.out.mono ?_
   rintro e wz ⟨rfl, rfl⟩
   go_wp2
   all_goals go_ret
   all_goals exact ⟨rfl, rfl⟩
theorem rf_enter_nodir {w : World} {t B : Nat} {G : Gt} {T : IT.Tr} (h : Trf w t B G T) (d x : Int) (s : ByteArray) {n m : IT.Nd} (hd : T d.toNat = some n) (hx : T x.toNat = some m) (hk : n.kind ≠ 1) :
  Calls Tryz.prog 100 #[.pointer (some ⟨t, 0, none⟩), .int .i64 d, .string s, .int .i64 x] w fun e w' => e = .returned (.int .i64 6) ∧ w = w' := by
 have HI1 := Hd (rY h d hd)
 have HI2 := Hd (rY h x hx)
 obtain ⟨kd, rfl, hd1, hd2, hdk⟩ := h.nat hd
 obtain ⟨kx, rfl, hx1, hx2, hxk⟩ := h.nat hx
 have c0 := h.rep.cellT
 have b1 := h.rep.c1 kd hd2
 rw [(h.ties.sok kd n hdk).kind] at b1
 have z1 : (n.kind == 1) = false := by simpa using hk
 clear h hd hx hdk hxk hk
 go_enter Tryz.func100, Tryz.ntmps100
 go_wp2_with fail
 refine HI1.out.mono ?_
 rintro e wz ⟨rfl, rfl⟩
 go_wp2_with fail
 refine HI2.out.mono ?_
 rintro e wz ⟨rfl, rfl⟩
 go_wp2
 all_goals go_ret
 all_goals exact ⟨rfl, rfl⟩
theorem rf_enter_name {w : World} {t B : Nat} {G : Gt} {T : IT.Tr} (h : Trf w t B G T) (d x : Int) (s : ByteArray) {n m : IT.Nd} (hd : T d.toNat = some n) (hx : T x.toNat = some m) (hk : n.kind = 1) (hok : okN (bs s) = false) :
  Calls Tryz.prog 100 #[.pointer (some ⟨t, 0, none⟩), .int .i64 d, .string s, .int .i64 x] w fun e w' => e = .returned (.int .i64 1) ∧ w = w' := by
 have HI1 := Hd (rY h d hd)
 have HI2 := Hd (rY h x hx)
 obtain ⟨kd, rfl, hd1, hd2, hdk⟩ := h.nat hd
 obtain ⟨kx, rfl, hx1, hx2, hxk⟩ := h.nat hx
 have c0 := h.rep.cellT
 have b1 := h.rep.c1 kd hd2
 rw [(h.ties.sok kd n hdk).kind] at b1
 rw [hk] at b1
 have HN := Hd (rname_ok s w)
 rw [hok] at HN
 clear h hd hx hdk hxk hk hok
 go_enter Tryz.func100, Tryz.ntmps100
 go_wp2_with fail
 refine HI1.out.mono ?_
 rintro e wz ⟨rfl, rfl⟩
 go_wp2_with fail
 refine HI2.out.mono ?_
 rintro e wz ⟨rfl, rfl⟩
 go_wp2_with fail
 refine HN.out.mono ?_
 rintro e wz ⟨rfl, rfl⟩
 go_wp2
 all_goals go_ret
 all_goals exact ⟨rfl, rfl⟩
theorem rf_enter_is {w : World} {t B : Nat} {G : Gt} {T : IT.Tr} (h : Trf w t B G T) (d x : Int) (s : ByteArray) {n m : IT.Nd} (hd : T d.toNat = some n) (hx : T x.toNat = some m) (hk : n.kind = 1) (hok : okN (bs s) = true) (hf : IT.findN (bs s) n.names ≠ none) :
  Calls Tryz.prog 100 #[.pointer (some ⟨t, 0, none⟩), .int .i64 d, .string s, .int .i64 x] w fun e w' => e = .returned (.int .i64 5) ∧ w = w' := by
 have HI1 := Hd (rY h d hd)
 have HI2 := Hd (rY h x hx)
 obtain ⟨kd, rfl, hd1, hd2, hdk⟩ := h.nat hd
 obtain ⟨kx, rfl, hx1, hx2, hxk⟩ := h.nat hx
 have c0 := h.rep.cellT
 have b1 := h.rep.c1 kd hd2
 rw [(h.ties.sok kd n hdk).kind] at b1
 rw [hk] at b1
 have HN := Hd (rname_ok s w)
 rw [hok] at HN
 obtain ⟨i, y, _, g2, g3⟩ := (h.ties.find h.snd.1 hdk s).resolve_left (fun e => hf e.1)
 have HA := Hd (rf_at_some h.rep kd hd2 s g2 g3)
 clear h hd hx hdk hxk hk hok hf g2 g3
 go_enter Tryz.func100, Tryz.ntmps100
 go_wp2_with fail
 refine HI1.out.mono ?_
 rintro e wz ⟨rfl, rfl⟩
 go_wp2_with fail
 refine HI2.out.mono ?_
 rintro e wz ⟨rfl, rfl⟩
 go_wp2_with fail
 refine HN.out.mono ?_
 rintro e wz ⟨rfl, rfl⟩
 go_wp2_with fail
 refine HA.out.mono ?_
 rintro e wz ⟨rfl, rfl⟩
 go_wp2
 all_goals go_ret
 all_goals exact ⟨rfl, rfl⟩
theorem rf_enter_many {w : World} {t B : Nat} {G : Gt} {T : IT.Tr} (h : Trf w t B G T) (d x : Int) (s : ByteArray) {n m : IT.Nd} (hd : T d.toNat = some n) (hx : T x.toNat = some m) (hk : n.kind = 1) (hok : okN (bs s) = true) (hf : IT.findN (bs s) n.names = none) (hm : x.toNat = 1 ∨ (m.kind = 1 ∧ IT.lnk T x.toNat > 0) ∨ IT.lnk T x.toNat ≥ 8) :
  Calls Tryz.prog 100 #[.pointer (some ⟨t, 0, none⟩), .int .i64 d, .string s, .int .i64 x] w fun e w' => e = .returned (.int .i64 12) ∧ w = w' := by
 have HI1 := Hd (rY h d hd)
 have HI2 := Hd (rY h x hx)
 obtain ⟨kd, rfl, hd1, hd2, hdk⟩ := h.nat hd
 obtain ⟨kx, rfl, hx1, hx2, hxk⟩ := h.nat hx
 have c0 := h.rep.cellT
 have b1 := h.rep.c1 kd hd2
 rw [(h.ties.sok kd n hdk).kind] at b1
 rw [hk] at b1
 have HN := Hd (rname_ok s w)
 rw [hok] at HN
 have hfn := ((h.ties.find h.snd.1 hdk s).resolve_right (fun ⟨i, y, e, _⟩ => by rw [hf] at e; cases e)).2
 have HA := Hd (rf_at_none h.rep kd hd2 s hfn)
 have hS := sumG_lnk h.snd.1.rng h.ties kx
 have HL := Hd (rf_sum h.rep kx (h.ties.few h.snd.1))
 rw [hS] at HL
 have b1x := h.rep.c1 kx hx2
 rw [(h.ties.sok kx m hxk).kind] at b1x
 have hl8 := h.snd.1.many kx
 rw [Int.toNat_natCast] at hm
 generalize IT.lnk T kx = ln at *
 clear h hd hx hdk hxk hk hok hf hfn hS
 by_cases q1 : kx = 1
 · subst q1
   clear hm
   go_enter Tryz.func100, Tryz.ntmps100
   go_wp2_with fail
   refine HI1.out.mono ?_
   rintro e wz ⟨rfl, rfl⟩
   go_wp2_with fail
   refine HI2.out.mono ?_
   rintro e wz ⟨rfl, rfl⟩
   go_wp2_with fail
   refine HN.out.mono ?_
   rintro e wz ⟨rfl, rfl⟩
   go_wp2_with fail
   refine HA.out.mono ?_
   rintro e wz ⟨rfl, rfl⟩
   go_wp2_with fail
   refine HL.out.mono ?_
   rintro e wz ⟨rfl, rfl⟩
   go_wp2
   all_goals go_ret
   all_goals exact ⟨rfl, rfl⟩
 · have z1 : ((kx : Int) == 1) = false := by simpa using (show ¬ (kx : Int) = 1 by omega)
   by_cases q2 : m.kind = 1
   · have z2 : (m.kind == 1) = true := by simpa using q2
     have hl0 : 0 < ln := by
      rcases hm with hm | hm | hm
      · exact absurd hm q1
      · exact hm.2
      · omega
     have hl1 : (0 : Int) < ln := by omega
     clear hm q1 q2
     go_enter Tryz.func100, Tryz.ntmps100
     go_wp2_with fail
     refine HI1.out.mono ?_
     rintro e wz ⟨rfl, rfl⟩
     go_wp2_with fail
     refine HI2.out.mono ?_
     rintro e wz ⟨rfl, rfl⟩
     go_wp2_with fail
     refine HN.out.mono ?_
     rintro e wz ⟨rfl, rfl⟩
     go_wp2_with fail
     refine HA.out.mono ?_
     rintro e wz ⟨rfl, rfl⟩
     go_wp2_with fail
     refine HL.out.mono ?_
     rintro e wz ⟨rfl, rfl⟩
     go_wp2
     all_goals go_ret
     all_goals exact ⟨rfl, rfl⟩
   · have z2 : (m.kind == 1) = false := by simpa using q2
     have hl0 : 8 ≤ ln := by
      rcases hm with hm | hm | hm
      · exact absurd hm q1
      · exact absurd hm.1 q2
      · exact hm
     have hl1 : (8 : Int) ≤ ln := by omega
     clear hm q1 q2
     go_enter Tryz.func100, Tryz.ntmps100
     go_wp2_with fail
     refine HI1.out.mono ?_
     rintro e wz ⟨rfl, rfl⟩
     go_wp2_with fail
     refine HI2.out.mono ?_
     rintro e wz ⟨rfl, rfl⟩
     go_wp2_with fail
     refine HN.out.mono ?_
     rintro e wz ⟨rfl, rfl⟩
     go_wp2_with fail
     refine HA.out.mono ?_
     rintro e wz ⟨rfl, rfl⟩
     go_wp2_with fail
     refine HL.out.mono ?_
     rintro e wz ⟨rfl, rfl⟩
     go_wp2
     all_goals go_ret
     all_goals exact ⟨rfl, rfl⟩
theorem rf_enter_full {w : World} {t B : Nat} {G : Gt} {T : IT.Tr} (h : Trf w t B G T) (d x : Int) (s : ByteArray) {n m : IT.Nd} (hd : T d.toNat = some n) (hx : T x.toNat = some m) (hk : n.kind = 1) (hok : okN (bs s) = true) (hf : IT.findN (bs s) n.names = none) (hm : ¬ (x.toNat = 1 ∨ (m.kind = 1 ∧ IT.lnk T x.toNat > 0) ∨ IT.lnk T x.toNat ≥ 8)) (h40 : n.names.length ≥ 40) :
  Calls Tryz.prog 100 #[.pointer (some ⟨t, 0, none⟩), .int .i64 d, .string s, .int .i64 x] w fun e w' => e = .returned (.int .i64 9) ∧ w = w' := by
 have HI1 := Hd (rY h d hd)
 have HI2 := Hd (rY h x hx)
 obtain ⟨kd, rfl, hd1, hd2, hdk⟩ := h.nat hd
 obtain ⟨kx, rfl, hx1, hx2, hxk⟩ := h.nat hx
 have c0 := h.rep.cellT
 have b1 := h.rep.c1 kd hd2
 rw [(h.ties.sok kd n hdk).kind] at b1
 rw [hk] at b1
 have HN := Hd (rname_ok s w)
 rw [hok] at HN
 have hfn := ((h.ties.find h.snd.1 hdk s).resolve_right (fun ⟨i, y, e, _⟩ => by rw [hf] at e; cases e)).2
 have HA := Hd (rf_at_none h.rep kd hd2 s hfn)
 have hS := sumG_lnk h.snd.1.rng h.ties kx
 have HL := Hd (rf_sum h.rep kx (h.ties.few h.snd.1))
 rw [hS] at HL
 have b1x := h.rep.c1 kx hx2
 rw [(h.ties.sok kx m hxk).kind] at b1x
 have hl8 := h.snd.1.many kx
 rw [Int.toNat_natCast] at hm
 have q1 : ¬ kx = 1 := fun e => hm (.inl e)
 have z1 : ((kx : Int) == 1) = false := by simpa using (show ¬ (kx : Int) = 1 by omega)
 have hl7 : ¬ IT.lnk T kx ≥ 8 := fun e => hm (.inr (.inr e))
 have hl8' : ((IT.lnk T kx : Nat) : Int) < 8 := by omega
 have hdz : m.kind = 1 → IT.lnk T kx = 0 := fun e => by
  have := fun e2 => hm (.inr (.inl ⟨e, e2⟩))
  omega
 have b9 := h.rep.c9 kd hd2
 obtain ⟨a, cap, hs, hcp1, hcp2, _⟩ := (h.rep.ents kd hd2).lit
 rw [hs] at b9
 have hnl : n.names.length = (G kd).ents.length := by have := (h.ties.sok kd n hdk).names.length_eq; unfold ents at this; rw [List.length_map] at this; exact this.symm
 rw [hnl] at h40
 have hL1 : (40 : Int) ≤ (G kd).ents.length := by omega
 have hL2 := h.ties.few h.snd.1 kd hd2
 generalize (G kd).ents.length = L at *
 clear h hd hx hdk hxk hk hok hf hfn hS hm q1 hs hcp1 hcp2 hnl
 by_cases q2 : m.kind = 1
 · have z2 : (m.kind == 1) = true := by simpa using q2
   have hz := hdz q2
   rw [hz, show ((0 : Nat) : Int) = 0 from rfl] at HL
   clear hdz hz q2 hl8' hl7 hl8
   generalize IT.lnk T kx = ln at *
   go_enter Tryz.func100, Tryz.ntmps100
   go_wp2_with fail
   refine HI1.out.mono ?_
   rintro e wz ⟨rfl, rfl⟩
   go_wp2_with fail
   refine HI2.out.mono ?_
   rintro e wz ⟨rfl, rfl⟩
   go_wp2_with fail
   refine HN.out.mono ?_
   rintro e wz ⟨rfl, rfl⟩
   go_wp2_with fail
   refine HA.out.mono ?_
   rintro e wz ⟨rfl, rfl⟩
   go_wp2_with fail
   refine HL.out.mono ?_
   rintro e wz ⟨rfl, rfl⟩
   go_wp2
   all_goals go_ret
   all_goals exact ⟨rfl, rfl⟩
 · have z2 : (m.kind == 1) = false := by simpa using q2
   clear hdz q2
   generalize IT.lnk T kx = ln at *
   go_enter Tryz.func100, Tryz.ntmps100
   go_wp2_with fail
   refine HI1.out.mono ?_
   rintro e wz ⟨rfl, rfl⟩
   go_wp2_with fail
   refine HI2.out.mono ?_
   rintro e wz ⟨rfl, rfl⟩
   go_wp2_with fail
   refine HN.out.mono ?_
   rintro e wz ⟨rfl, rfl⟩
   go_wp2_with fail
   refine HA.out.mono ?_
   rintro e wz ⟨rfl, rfl⟩
   go_wp2_with fail
   refine HL.out.mono ?_
   rintro e wz ⟨rfl, rfl⟩
   go_wp2
   all_goals go_ret
   all_goals exact ⟨rfl, rfl⟩
theorem rf_enter_busy {w : World} {t B : Nat} {G : Gt} {T : IT.Tr} (h : Trf w t B G T) (d x : Int) (s : ByteArray) {n m : IT.Nd} (hd : T d.toNat = some n) (hx : T x.toNat = some m) (hk : n.kind = 1) (hok : okN (bs s) = true) (hf : IT.findN (bs s) n.names = none) (hm : ¬ (x.toNat = 1 ∨ (m.kind = 1 ∧ IT.lnk T x.toNat > 0) ∨ IT.lnk T x.toNat ≥ 8)) (h40 : ¬ n.names.length ≥ 40) (hmk : m.kind = 1) (hbe : IT.Bel T x.toNat d.toNat) :
  Calls Tryz.prog 100 #[.pointer (some ⟨t, 0, none⟩), .int .i64 d, .string s, .int .i64 x] w fun e w' => e = .returned (.int .i64 8) ∧ w = w' := by
 have HI1 := Hd (rY h d hd)
 have HI2 := Hd (rY h x hx)
 obtain ⟨kd, rfl, hd1, hd2, hdk⟩ := h.nat hd
 obtain ⟨kx, rfl, hx1, hx2, hxk⟩ := h.nat hx
 have c0 := h.rep.cellT
 have b1 := h.rep.c1 kd hd2
 rw [(h.ties.sok kd n hdk).kind] at b1
 rw [hk] at b1
 have HN := Hd (rname_ok s w)
 rw [hok] at HN
 have hfn := ((h.ties.find h.snd.1 hdk s).resolve_right (fun ⟨i, y, e, _⟩ => by rw [hf] at e; cases e)).2
 have HA := Hd (rf_at_none h.rep kd hd2 s hfn)
 have hS := sumG_lnk h.snd.1.rng h.ties kx
 have HL := Hd (rf_sum h.rep kx (h.ties.few h.snd.1))
 rw [hS] at HL
 have b1x := h.rep.c1 kx hx2
 rw [(h.ties.sok kx m hxk).kind] at b1x
 have hl8 := h.snd.1.many kx
 rw [Int.toNat_natCast] at hm
 have q1 : ¬ kx = 1 := fun e => hm (.inl e)
 have z1 : ((kx : Int) == 1) = false := by simpa using (show ¬ (kx : Int) = 1 by omega)
 have hl7 : ¬ IT.lnk T kx ≥ 8 := fun e => hm (.inr (.inr e))
 have hl8' : ((IT.lnk T kx : Nat) : Int) < 8 := by omega
 have hdz : m.kind = 1 → IT.lnk T kx = 0 := fun e => by
  have := fun e2 => hm (.inr (.inl ⟨e, e2⟩))
  omega
 have b9 := h.rep.c9 kd hd2
 obtain ⟨a, cap, hs, hcp1, hcp2, _⟩ := (h.rep.ents kd hd2).lit
 rw [hs] at b9
 have hnl : n.names.length = (G kd).ents.length := by have := (h.ties.sok kd n hdk).names.length_eq; unfold ents at this; rw [List.length_map] at this; exact this.symm
 rw [hnl] at h40
 have hL1 : ((G kd).ents.length : Int) < 40 := by omega
 have HWI : Hid (Calls Tryz.prog 124 #[.pointer (some ⟨t, 0, none⟩), .int .i64 (kd : Int), .int .i64 (kx : Int)] w fun e w' => e = .returned (.bool true) ∧ w = w') := Hd ((rf_within h kd kx hdk hk).mono (by
  rintro e w' ⟨b, rfl, hb, rfl⟩
  rw [hb.2 hbe]
  exact ⟨rfl, rfl⟩))
 generalize (G kd).ents.length = L at *
 have hz := hdz hmk
 rw [hz, show ((0 : Nat) : Int) = 0 from rfl] at HL
 rw [hmk] at b1x
 clear h hd hx hdk hxk hk hok hf hfn hS hm q1 hs hcp1 hcp2 hnl hmk hbe hdz hz hl8' hl7 hl8
 generalize IT.lnk T kx = ln at *
 go_enter Tryz.func100, Tryz.ntmps100
 go_wp2_with fail
 refine HI1.out.mono ?_
 rintro e wz ⟨rfl, rfl⟩
 go_wp2_with fail
 refine HI2.out.mono ?_
 rintro e wz ⟨rfl, rfl⟩
 go_wp2_with fail
 refine HN.out.mono ?_
 rintro e wz ⟨rfl, rfl⟩
 go_wp2_with fail
 refine HA.out.mono ?_
 rintro e wz ⟨rfl, rfl⟩
 go_wp2_with fail
 refine HL.out.mono ?_
 rintro e wz ⟨rfl, rfl⟩
 go_wp2_with fail
 refine HWI.out.mono ?_
 rintro e wz ⟨rfl, rfl⟩
 go_wp2
 all_goals go_ret
 all_goals exact ⟨rfl, rfl⟩
def AdP (w : World) (t B : Nat) (G : Gt) (k : Nat) (s : ByteArray) (x : Nat) (w' : World) : Prop := ∃ v, Rf w' t B (updG G k { G k with sl := v, ents := (G k).ents ++ [(s, x)] }) ∧ Mo B w w'
theorem Rf.moEq {w W : World} {t B : Nat} {G : Gt} (h : Rf w t B G) (hm : Mo B w W) (hq : W.heap[B]? = w.heap[B]?) : Rf W t B G :=
 ⟨(hm.block t h.ltT h.ne).trans h.tree, hq.trans h.row, fun k hk => EntAt.mo h (h.ents k hk) hm⟩
theorem rf_enter_file {w : World} {t B : Nat} {G : Gt} {T : IT.Tr} (h : Trf w t B G T) (d x : Int) (s : ByteArray) {n m : IT.Nd} (hd : T d.toNat = some n) (hx : T x.toNat = some m) (hk : n.kind = 1) (hok : okN (bs s) = true) (hf : IT.findN (bs s) n.names = none) (hm : ¬ (x.toNat = 1 ∨ (m.kind = 1 ∧ IT.lnk T x.toNat > 0) ∨ IT.lnk T x.toNat ≥ 8)) (h40 : ¬ n.names.length ≥ 40) (hmk : m.kind ≠ 1) :
  Calls Tryz.prog 100 #[.pointer (some ⟨t, 0, none⟩), .int .i64 d, .string s, .int .i64 x] w fun e w' => e = .returned (.int .i64 0) ∧ AdP w t B G d.toNat s x.toNat w' := by
 have HI1 := Hd (rY h d hd)
 have HI2 := Hd (rY h x hx)
 obtain ⟨kd, rfl, hd1, hd2, hdk⟩ := h.nat hd
 obtain ⟨kx, rfl, hx1, hx2, hxk⟩ := h.nat hx
 have c0 := h.rep.cellT
 have b1 := h.rep.c1 kd hd2
 rw [(h.ties.sok kd n hdk).kind] at b1
 rw [hk] at b1
 have HN := Hd (rname_ok s w)
 rw [hok] at HN
 have hfn := ((h.ties.find h.snd.1 hdk s).resolve_right (fun ⟨i, y, e, _⟩ => by rw [hf] at e; cases e)).2
 have HA := Hd (rf_at_none h.rep kd hd2 s hfn)
 have hS := sumG_lnk h.snd.1.rng h.ties kx
 have HL := Hd (rf_sum h.rep kx (h.ties.few h.snd.1))
 rw [hS] at HL
 have b1x := h.rep.c1 kx hx2
 rw [(h.ties.sok kx m hxk).kind] at b1x
 have hl8 := h.snd.1.many kx
 rw [Int.toNat_natCast] at hm
 have q1 : ¬ kx = 1 := fun e => hm (.inl e)
 have z1 : ((kx : Int) == 1) = false := by simpa using (show ¬ (kx : Int) = 1 by omega)
 have hl7 : ¬ IT.lnk T kx ≥ 8 := fun e => hm (.inr (.inr e))
 have hl8' : ((IT.lnk T kx : Nat) : Int) < 8 := by omega
 have hdz : m.kind = 1 → IT.lnk T kx = 0 := fun e => by
  have := fun e2 => hm (.inr (.inl ⟨e, e2⟩))
  omega
 have b9 := h.rep.c9 kd hd2
 obtain ⟨a, cap, hs, hcp1, hcp2, _⟩ := (h.rep.ents kd hd2).lit
 rw [hs] at b9
 have hnl : n.names.length = (G kd).ents.length := by have := (h.ties.sok kd n hdk).names.length_eq; unfold ents at this; rw [List.length_map] at this; exact this.symm
 rw [hnl] at h40
 have hL1 : ((G kd).ents.length : Int) < 40 := by omega
 have hL2 : (G kd).ents.length < 40 := by omega
 obtain ⟨i0, hi0, hz0, hz1, hz2⟩ := info_parts info_entry
 have z2 : (m.kind == 1) = false := by simpa using hmk
 have hrf := h.rep
 obtain ⟨E, hE1⟩ : ∃ E, (G kd).ents = E := ⟨_, rfl⟩
 have hs1 : (G kd).sl = .slice a E.length cap := by rw [hs, hE1]
 have HM1 := Hd (Mo.refl B w)
 obtain ⟨L, hL⟩ : ∃ L, E.length = L := ⟨_, rfl⟩
 rw [hE1, hL] at hL1 hL2 b9
 rw [hL] at hs1
 have HLE := Hd hL
 obtain ⟨G1, hG1⟩ : ∃ G1, G = G1 := ⟨_, rfl⟩
 clear c0 b9
 have HRF := Hd hrf
 have hBL := hrf.ltB
 have hTL := hrf.ltT
 have hTB := hrf.ne
 have c0 := hrf.cellT
 have b9 := hrf.c9 kd hd2
 rw [hs1] at b9
 have C9 := Hd b9
 have s9 := hrf.frozen (kd * 10 + 9)
 have HSRC : Hid (∀ W', Mo B w W' → W'.ownsRow 0 148 2 (.slice a L cap) L (flatE E)) := Hd (fun W' hm => by
  have := EntAt.mo HRF.out (HRF.out.ents kd hd2) hm
  unfold EntAt at this
  rw [hs1, hE1, HLE.out] at this
  rw [← HLE.out] at this ⊢
  exact this)
 have n1 : kd < 201 := by omega
 have n2 : (kd : Int) < 201 := by omega
 clear hrf
 have HG := Hd hE1
 subst hG1
 rw [Int.toNat_natCast, Int.toNat_natCast]
 clear h hd hx hdk hxk hk hok hf hfn hS hm q1 hs hcp1 hcp2 hnl hmk hdz hs1 hE1 hL h40
 generalize IT.lnk T kx = ln at *
 go_enter Tryz.func100, Tryz.ntmps100
 go_wp2_with fail
 refine HI1.out.mono ?_
 rintro e wz ⟨rfl, rfl⟩
 go_wp2_with fail
 refine HI2.out.mono ?_
 rintro e wz ⟨rfl, rfl⟩
 go_wp2_with fail
 refine HN.out.mono ?_
 rintro e wz ⟨rfl, rfl⟩
 go_wp2_with fail
 refine HA.out.mono ?_
 rintro e wz ⟨rfl, rfl⟩
 go_wp2_with fail
 refine HL.out.mono ?_
 rintro e wz ⟨rfl, rfl⟩
 go_upto_region 22 with fail
 refine wp_region_held_drew (S := (fun W' => Mo B w W' ∧ W'.cell? ⟨t, 0, none⟩ = some (.slice (some ⟨B, 0, none⟩) 201 201) ∧ W'.frozen? ⟨B, kd * 10 + 9, none⟩ = false)) (by kernel_rfl) (Sy.below (Below.refl _ _).drew hTL hBL (Sy.start HRF.out _)) (fun hHeld => ?_)
 refine wpAnyH_take (i := 0) (v := ?_) rfl (by kernel_rfl) (by kernel_rfl) (by kernel_rfl) (fun _ _ _ h => h) (.inl ⟨by rfl, ?_⟩) (by assumption) ?_
 rotate_left
 · (intro W hSw; (try dsimp only at hSw); go_simp; try with_reducible rfl)
 try simp only [lA, lB, lC, Act.put, lD, lE, lF]
 refine wpAnyH_take (i := 1) (v := ?_) rfl (by kernel_rfl) (by kernel_rfl) (by kernel_rfl) (fun _ _ _ h => h) (.inl ⟨by rfl, ?_⟩) (by assumption) ?_
 rotate_left
 · (intro W hSw; (try dsimp only at hSw); go_simp; try with_reducible rfl)
 try simp only [lA, lB, lC, Act.put, lD, lE, lF]
 refine wpAnyH_take (i := 2) (v := ?_) rfl (by kernel_rfl) (by kernel_rfl) (by kernel_rfl) (fun _ _ _ h => h) (.inl ⟨by rfl, ?_⟩) (by assumption) ?_
 rotate_left
 · (intro W hSw; (try dsimp only at hSw); go_simp; try with_reducible rfl)
 try simp only [lA, lB, lC, Act.put, lD, lE, lF]
 refine wpAnyH_take (i := 3) (v := ?_) rfl (by kernel_rfl) (by kernel_rfl) (by kernel_rfl) (fun _ _ _ h => h) (.inl ⟨by rfl, ?_⟩) (by assumption) ?_
 rotate_left
 · (intro W hSw; (try dsimp only at hSw); go_simp; try with_reducible rfl)
 try simp only [lA, lB, lC, Act.put, lD, lE, lF]
 refine wpAnyH_take (i := 4) (v := ?_) rfl (by kernel_rfl) (by kernel_rfl) (by kernel_rfl) (fun _ _ _ h => h) (.inl ⟨by rfl, ?_⟩) (by assumption) ?_
 rotate_left
 · (intro W hSw; (try dsimp only at hSw); go_simp; try with_reducible rfl)
 try simp only [lA, lB, lC, Act.put, lD, lE, lF]
 refine wpAnyH_take (i := 6) (v := ?_) rfl (by kernel_rfl) (by kernel_rfl) (by kernel_rfl) (fun _ _ _ h => h) (.inl ⟨by rfl, ?_⟩) (by assumption) ?_
 rotate_left
 · (intro W hSw; (try dsimp only at hSw); go_simp; try with_reducible rfl)
 try simp only [lA, lB, lC, Act.put, lD, lE, lF]
 refine wpAnyH_take (i := 7) (v := ?_) rfl (by kernel_rfl) (by kernel_rfl) (by kernel_rfl) (fun _ _ _ h => h) (.inl ⟨by rfl, ?_⟩) (by assumption) ?_
 rotate_left
 · (intro W hSw; (try dsimp only at hSw); go_simp; try with_reducible rfl)
 try simp only [lA, lB, lC, Act.put, lD, lE, lF]
 refine wpAnyH_take (i := 8) (v := ?_) rfl (by kernel_rfl) (by kernel_rfl) (by kernel_rfl) (fun _ _ _ h => h) (.inl ⟨by rfl, ?_⟩) (by assumption) ?_
 rotate_left
 · (intro W hSw; (try dsimp only at hSw); go_simp; try with_reducible rfl)
 try simp only [lA, lB, lC, Act.put, lD, lE, lF]
 refine wpAnyH_take (i := 9) (v := ?_) rfl (by kernel_rfl) (by kernel_rfl) (by kernel_rfl) (fun _ _ _ h => h) (.inl ⟨by rfl, ?_⟩) (by assumption) ?_
 rotate_left
 · (intro W hSw; (try dsimp only at hSw); go_simp; try with_reducible rfl)
 try simp only [lA, lB, lC, Act.put, lD, lE, lF]
 refine wpAnyH_take (i := 10) (v := ?_) rfl (by kernel_rfl) (by kernel_rfl) (by kernel_rfl) (fun _ _ _ h => h) (.inl ⟨by rfl, ?_⟩) (by assumption) ?_
 rotate_left
 · (intro W hSw; (try dsimp only at hSw); go_simp; try with_reducible rfl)
 try simp only [lA, lB, lC, Act.put, lD, lE, lF]
 refine wpAnyH_take (i := 11) (v := ?_) rfl (by kernel_rfl) (by kernel_rfl) (by kernel_rfl) (fun _ _ _ h => h) (.inl ⟨by rfl, ?_⟩) (by assumption) ?_
 rotate_left
 · (intro W hSw; (try dsimp only at hSw); go_simp; try with_reducible rfl)
 try simp only [lA, lB, lC, Act.put, lD, lE, lF]
 refine wpAnyH_take (i := 12) (v := ?_) rfl (by kernel_rfl) (by kernel_rfl) (by kernel_rfl) (fun _ _ _ h => h) (.inl ⟨by rfl, ?_⟩) (by assumption) ?_
 rotate_left
 · (intro W hSw; (try dsimp only at hSw); go_simp; try with_reducible rfl)
 try simp only [lA, lB, lC, Act.put, lD, lE, lF]
 refine wpAnyH_take (i := 15) (v := ?_) rfl (by kernel_rfl) (by kernel_rfl) (by kernel_rfl) (fun _ _ _ h => h) (.inl ⟨by rfl, ?_⟩) (by assumption) ?_
 rotate_left
 · (intro W hSw; (try dsimp only at hSw); go_simp; try with_reducible rfl)
 try simp only [lA, lB, lC, Act.put, lD, lE, lF]
 refine wpAnyH_take (i := 16) (v := ?_) rfl (by kernel_rfl) (by kernel_rfl) (by kernel_rfl) (fun _ _ _ h => h) (.inl ⟨by rfl, ?_⟩) (by assumption) ?_
 rotate_left
 · (intro W hSw; (try dsimp only at hSw); go_simp; try with_reducible rfl)
 try simp only [lA, lB, lC, Act.put, lD, lE, lF]
 refine wpAnyH_take (i := 17) (v := ?_) rfl (by kernel_rfl) (by kernel_rfl) (by kernel_rfl) (fun _ _ _ h => h) (.inl ⟨by rfl, ?_⟩) (by assumption) ?_
 rotate_left
 · (intro W hSw; (try dsimp only at hSw); go_simp; try with_reducible rfl)
 try simp only [lA, lB, lC, Act.put, lD, lE, lF]
 iterate 4
  all_goals
   first
   | have _ := m5; have _ := m13; have _ := m14; refine wpAnyH_ready (rs := [18]) (by kernel_rfl) (by simp) ?_; refine AllReadyH.cons rfl (fun K hK => have m18 := Hd trivial; ?_) AllReadyH.nil
   | have _ := m5; have _ := m13; have _ := m18; refine wpAnyH_ready (rs := [14]) (by kernel_rfl) (by simp) ?_; refine AllReadyH.cons rfl (fun K hK => have m14 := Hd trivial; ?_) AllReadyH.nil
   | have _ := m5; have _ := m13; refine wpAnyH_ready (rs := [14, 18]) (by kernel_rfl) (by simp) ?_; refine AllReadyH.cons rfl (fun K hK => have m14 := Hd trivial; ?_) (AllReadyH.cons rfl (fun K hK => have m18 := Hd trivial; ?_) AllReadyH.nil)
   | have _ := m5; have _ := m18; refine wpAnyH_ready (rs := [13]) (by kernel_rfl) (by simp) ?_; refine AllReadyH.cons rfl (fun K hK => have m13 := Hd trivial; ?_) AllReadyH.nil
   | have _ := m13; have _ := m18; refine wpAnyH_ready (rs := [5]) (by kernel_rfl) (by simp) ?_; refine AllReadyH.cons rfl (fun K hK => have m5 := Hd trivial; ?_) AllReadyH.nil
   | have _ := m5; refine wpAnyH_ready (rs := [13, 18]) (by kernel_rfl) (by simp) ?_; refine AllReadyH.cons rfl (fun K hK => have m13 := Hd trivial; ?_) (AllReadyH.cons rfl (fun K hK => have m18 := Hd trivial; ?_) AllReadyH.nil)
   | have _ := m13; refine wpAnyH_ready (rs := [5, 18]) (by kernel_rfl) (by simp) ?_; refine AllReadyH.cons rfl (fun K hK => have m5 := Hd trivial; ?_) (AllReadyH.cons rfl (fun K hK => have m18 := Hd trivial; ?_) AllReadyH.nil)
   | have _ := m18; refine wpAnyH_ready (rs := [5, 13]) (by kernel_rfl) (by simp) ?_; refine AllReadyH.cons rfl (fun K hK => have m5 := Hd trivial; ?_) (AllReadyH.cons rfl (fun K hK => have m13 := Hd trivial; ?_) AllReadyH.nil)
   | refine wpAnyH_ready (rs := [5, 13, 18]) (by kernel_rfl) (by simp) ?_; refine AllReadyH.cons rfl (fun K hK => have m5 := Hd trivial; ?_) (AllReadyH.cons rfl (fun K hK => have m13 := Hd trivial; ?_) (AllReadyH.cons rfl (fun K hK => have m18 := Hd trivial; ?_) AllReadyH.nil))
  all_goals
   first
   | refine aX rfl (.tmp 105) (.tmp 113) 110 rfl w.heap.size 148 i0 (.agg #[.string ⟨#[]⟩, .int .i64 0]) 24 Tryz.underlying110 hi0 hz0 hz1 hz2 rfl (.slice (some ⟨w.heap.size, 0, none⟩) 0 0) 0 [] ?_ ?_ 0 (.slice a L cap) L (flatE E) ?_ ?_ ?_ ?_ ?_ ?_ ?_
     · simp [Act.eval, Act.put]; done
     · exact (own_empty _ _ _ _ rfl (Nat.le_refl _)).drew
     · simp [Act.eval, Act.put]; done
     · exact HSRC.out _ (‹Mo B w _ ∧ _›).1
     · exact fun u hu => flatE_one _ u hu
     · unfold maxLen; omega
     · omega
     · exact (‹Mo B w _ ∧ _›).1.size
     intro v5 w5 hown5 hgrow5 hbel5
     have hm5 : Mo B w w5 := (‹Mo B w _ ∧ _›).1.grow hbel5
     have hq5 : w5.heap[B]? = w.heap[B]? := (hbel5.block B hBL).trans (Below.block (((Below.refl w.heap.size w).drew).alloc (Nat.le_refl _) _) B hBL)
   | refine aX rfl (.tmp 105) (.tmp 113) 110 rfl w.heap.size 148 i0 (.agg #[.string ⟨#[]⟩, .int .i64 0]) 24 Tryz.underlying110 hi0 hz0 hz1 hz2 rfl (.slice (some ⟨w.heap.size, 0, none⟩) 0 0) 0 [] ?_ ?_ 0 (.slice a L cap) L (flatE E) ?_ ?_ ?_ ?_ ?_ ?_ ?_
     · simp [Act.eval, Act.put]; done
     · exact ((own_empty _ _ _ _ rfl (Nat.le_refl _)).below2 ((Below.refl _ _).alloc (Nat.le_refl _) _)).drew
     · simp [Act.eval, Act.put]; done
     · exact HSRC.out _ (‹Mo B w _ ∧ _›).1
     · exact fun u hu => flatE_one _ u hu
     · unfold maxLen; omega
     · omega
     · exact (‹Mo B w _ ∧ _›).1.size
     intro v5 w5 hown5 hgrow5 hbel5
     have hm5 : Mo B w w5 := (‹Mo B w _ ∧ _›).1.grow hbel5
     have hq5 : w5.heap[B]? = w.heap[B]? := (hbel5.block B hBL).trans (Below.block ((((Below.refl w.heap.size w).drew).alloc (Nat.le_refl _) _).alloc (by simp) _) B hBL)
   | refine aX rfl (.tmp 105) (.tmp 113) 110 rfl w.heap.size 148 i0 (.agg #[.string ⟨#[]⟩, .int .i64 0]) 24 Tryz.underlying110 hi0 hz0 hz1 hz2 rfl (.slice (some ⟨(w.heap.size + 1), 0, none⟩) 0 0) 0 [] ?_ ?_ 0 (.slice a L cap) L (flatE E) ?_ ?_ ?_ ?_ ?_ ?_ ?_
     · simp [Act.eval, Act.put]; done
     · exact (own_empty _ _ _ _ (by simp) (by simp)).drew
     · simp [Act.eval, Act.put]; done
     · exact HSRC.out _ (‹Mo B w _ ∧ _›).1
     · exact fun u hu => flatE_one _ u hu
     · unfold maxLen; omega
     · omega
     · exact (‹Mo B w _ ∧ _›).1.size
     intro v5 w5 hown5 hgrow5 hbel5
     have hm5 : Mo B w w5 := (‹Mo B w _ ∧ _›).1.grow hbel5
     have hq5 : w5.heap[B]? = w.heap[B]? := (hbel5.block B hBL).trans (Below.block ((((Below.refl w.heap.size w).drew).alloc (Nat.le_refl _) _).alloc (by simp) _) B hBL)
   | simp only [lA, lB, lC]; go_simp
   refine hK.out _ _ ?_ (fun hHeld => ?_)
   · (try dsimp only); first | with_reducible assumption | exact Sy.below ((Below.refl _ _).alloc (‹Mo B w _ ∧ _›).1.size _) hTL hBL ‹Mo B w _ ∧ _› | exact Sy.below hbel5 hTL hBL ‹Mo B w _ ∧ _›
   clear hK K
   try simp only [lA, lB, lC, Act.put, lD, lE, lF]
 all_goals
  refine wpAnyH_ready (rs := [19]) (by kernel_rfl) (by simp) ?_
  refine AllReadyH.cons rfl (fun K hK => ?_) AllReadyH.nil
  first
  | refine aX rfl (.tmp 114) (.tmp 118) 110 rfl w.heap.size 148 i0 (.agg #[.string ⟨#[]⟩, .int .i64 0]) 24 Tryz.underlying110 hi0 hz0 hz1 hz2 rfl v5 (0 + L) ([] ++ flatE E) ?_ ?_ 0 (.slice (some ⟨w5.heap.size, 0, none⟩) 1 1) 1 [.string s, .int .i64 (kx : Int)] ?_ ?_ ?_ ?_ ?_ ?_ ?_
    · simp [Act.eval, Act.put]; done
    · exact hown5.below2 ((Below.refl _ _).alloc (Nat.le_refl _) _)
    · simp [Act.eval, Act.put]; done
    · exact own_one _ _ _ _ _ rfl
    · exact fun u hu => by (simp only [List.mem_cons, List.not_mem_nil, or_false] at hu; rcases hu with rfl | rfl <;> rfl)
    · unfold maxLen; omega
    · omega
    · exact (‹Mo B w _ ∧ _›).1.size
    intro v8 w8 hown8 hgrow8 hbel8
    have hq8 : w8.heap[B]? = w.heap[B]? := (hbel8.block B hBL).trans ((Below.block ((Below.refl _ w5).alloc (Nat.le_refl _) _) B (by have := hm5.size; omega)).trans hq5)
    have hm8 : Mo B w w8 := (‹Mo B w _ ∧ _›).1.grow hbel8
    obtain ⟨a8, n8, c8, rfl⟩ := own_slice hown8
    have hc8 : w8.cell? ⟨B, kd * 10 + 9, none⟩ = some (.slice a L cap) := (cell_block hq8 _).trans C9.out
  | refine aX rfl (.tmp 114) (.tmp 118) 110 rfl w.heap.size 148 i0 (.agg #[.string ⟨#[]⟩, .int .i64 0]) 24 Tryz.underlying110 hi0 hz0 hz1 hz2 rfl v5 (0 + L) ([] ++ flatE E) ?_ ?_ 0 (.slice (some ⟨(w.heap.size + 1), 0, none⟩) 1 1) 1 [.string s, .int .i64 (kx : Int)] ?_ ?_ ?_ ?_ ?_ ?_ ?_
    · simp [Act.eval, Act.put]; done
    · exact hown5
    · simp [Act.eval, Act.put]; done
    · exact ((own_one _ _ _ _ _ (by simp)).drew.kept hgrow5 (.inr (by simp [Value.ownBlock])))
    · exact fun u hu => by (simp only [List.mem_cons, List.not_mem_nil, or_false] at hu; rcases hu with rfl | rfl <;> rfl)
    · unfold maxLen; omega
    · omega
    · exact (‹Mo B w _ ∧ _›).1.size
    intro v8 w8 hown8 hgrow8 hbel8
    have hq8 : w8.heap[B]? = w.heap[B]? := (hbel8.block B hBL).trans hq5
    have hm8 : Mo B w w8 := (‹Mo B w _ ∧ _›).1.grow hbel8
    obtain ⟨a8, n8, c8, rfl⟩ := own_slice hown8
    have hc8 : w8.cell? ⟨B, kd * 10 + 9, none⟩ = some (.slice a L cap) := (cell_block hq8 _).trans C9.out
  | refine aX rfl (.tmp 114) (.tmp 118) 110 rfl w.heap.size 148 i0 (.agg #[.string ⟨#[]⟩, .int .i64 0]) 24 Tryz.underlying110 hi0 hz0 hz1 hz2 rfl v5 (0 + L) ([] ++ flatE E) ?_ ?_ 0 (.slice (some ⟨w.heap.size, 0, none⟩) 1 1) 1 [.string s, .int .i64 (kx : Int)] ?_ ?_ ?_ ?_ ?_ ?_ ?_
    · simp [Act.eval, Act.put]; done
    · exact hown5
    · simp [Act.eval, Act.put]; done
    · exact (((own_one _ _ _ _ _ rfl).below2 ((Below.refl _ _).alloc (Nat.le_refl _) _)).drew.kept hgrow5 (.inr (by simp [Value.ownBlock])))
    · exact fun u hu => by (simp only [List.mem_cons, List.not_mem_nil, or_false] at hu; rcases hu with rfl | rfl <;> rfl)
    · unfold maxLen; omega
    · omega
    · exact (‹Mo B w _ ∧ _›).1.size
    intro v8 w8 hown8 hgrow8 hbel8
    have hq8 : w8.heap[B]? = w.heap[B]? := (hbel8.block B hBL).trans hq5
    have hm8 : Mo B w w8 := (‹Mo B w _ ∧ _›).1.grow hbel8
    obtain ⟨a8, n8, c8, rfl⟩ := own_slice hown8
    have hc8 : w8.cell? ⟨B, kd * 10 + 9, none⟩ = some (.slice a L cap) := (cell_block hq8 _).trans C9.out
  refine hK.out _ _ ?_ (fun hHeld => ?_)
  · (try dsimp only); exact Sy.below hbel8 hTL hBL ‹Mo B w _ ∧ _›
  clear hK K
  try simp only [lA, lB, lC, Act.put, lD, lE, lF]
  refine wpAnyH_take (i := 20) (v := ?_) rfl (by kernel_rfl) (by kernel_rfl) (by kernel_rfl) (fun _ _ _ h => h) (.inl ⟨by rfl, ?_⟩) (by assumption) ?_
  rotate_left
  · (intro W hSw; (try dsimp only at hSw); go_simp; try with_reducible rfl)
  try simp only [lA, lB, lC, Act.put, lD, lE, lF]
  refine wpAnyH_take (i := 21) (v := ?_) rfl (by kernel_rfl) (by kernel_rfl) (by kernel_rfl) (fun _ _ _ h => h) (.inl ⟨by rfl, ?_⟩) (by assumption) ?_
  rotate_left
  · (intro W hSw; (try dsimp only at hSw); go_simp; try with_reducible rfl)
  try simp only [lA, lB, lC, Act.put, lD, lE, lF]
  refine wpAnyH_ready (rs := [22]) (by kernel_rfl) (by simp) ?_
  refine AllReadyH.cons rfl (fun K hK => ?_) AllReadyH.nil
  simp only [lA, lB, lC]
  go_simp
  refine hK.out _ _ ?_ (fun hHeld => ?_)
  · (try dsimp only); exact Sy.set hTB ‹Mo B w _ ∧ _› _
  clear hK K
  try simp only [lA, lB, lC, Act.put, lD, lE, lF]
  refine wpAnyH_done (by kernel_rfl) ?_ _
  have hRF := Hd ((HRF.out.moEq hm8 hq8).set hd2 (show 9 < 10 by omega) (.slice a8 n8 c8) { G kd with sl := .slice a8 n8 c8, ents := E ++ [(s, kx)] } rfl (ent_of hown8 (G kd) (E ++ [(s, kx)]) (by rw [List.length_append, ← HLE.out]; simp) (by rw [flatE_app, List.nil_append]; rfl)))
  have hMO := Hd ((HM1.out.trans hm8).set (i := kd * 10 + 9) (.slice a8 n8 c8))
  clear hown8 hgrow8 hbel8 hown5 hgrow5 hbel5 hm8 hq8 hm5 hq5 hc8
  go_wp2
  go_ret
  refine ⟨rfl, .slice a8 n8 c8, ?_, hMO.out⟩
  rw [HG.out]
  exact hRF.out
end Go.Proofs.YtafonmnfeibaiaaGreat.RF
