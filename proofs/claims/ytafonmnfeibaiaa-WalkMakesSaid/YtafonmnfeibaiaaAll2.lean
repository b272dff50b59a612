/- Part 3 of the proof: contracts of functions that the statement reaches, and plain lemmas. -/
import Derived.Test.YtafonmnfeibaiaaAll1
import Derived.Test.YtafonmnfeibaiaaIter
import Derived.Sort.KeysCollected
import Derived.Lib.IndexLaws
import Derived.Lib.TrimByte
import Derived.Lib.LastIndexByte
import Derived.WalkKit
import Derived.Test.YtafonmnfeibaiaaShelf
import Derived.WalkLawsBesides
import Derived.WalkSpells
import Derived.Outline
import Derived.Below
import Derived.Lib.Hide
import Derived.BigQuiet
import Derived.Deep.QuietTactic
import Derived.RegionTactic
import Derived.BigRegion
import Derived.OwnWalk
import Derived.Maps.AppendAt
import Derived.RangeFuncNested
import Derived.RangeFuncBound
import Derived.RangeFuncCalls
import Derived.RangeFuncLeaves
import Derived.Shelf.Abstract
import Derived.Shelf.RegionOpen
import Derived.OwnWalkIn
import Derived.TacticsInMore
import Derived.LoopNIn
import Derived.LoopIn
import Derived.Test.YtafonmnfeibaiaaProg
import Derived.Laws.BitsLemmas
import Derived.Laws.ResultCell
namespace Go.Proofs.Ytafonmnfeibaiaa
open Go.RowKit

theorem MvW.fin {w1 : World} {t : Nat} {S : Tab} {d b x bd bb bx : Nat} {nd nb1 nx : Nd} {s ar : ByteArray} {m m2 : Nat} {O1 O2 : Obj} {l2} (h : MvW w1 t S d b x bd bb bx nd nb1 nx s ar m m2 O1 O2 l2) (hx : S x = some (bx, nx)) (hxd : x ≠ d) (hxb : x ≠ b) (j : Nat) :
    (nx.kind = 1 → Mv w1 t S ((((w1.drewN j).putObj m O1).drew.putObj m2 O2).setCell ⟨bx, 11, none⟩ (.int .i64 (b : Int))) (movedS S d b x bd nd bb nb1 bx nx s l2)) ∧
    (nx.kind ≠ 1 → Mv w1 t S (((w1.drewN j).putObj m O1).drew.putObj m2 O2) (movedS S d b x bd nd bb nb1 bx nx s l2)) := by
  have hS : upd (upd S d (some (bd, { nd with names := delL nd.names s }))) b (some (bb, { nb1 with names := l2 })) x = some (bx, nx) := by
    rw [upd_other _ _ hxb, upd_other _ _ hxd]; exact hx
  have hmv := h.mv j
  have hsm := (hmv.rep.small x bx nx hS).1
  refine ⟨fun hk => ?_, fun hk => ?_⟩
  · exact hmv.setNode hS 11 (.int .i64 (b : Int)) { nx with parent := if nx.kind = 1 then b else nx.parent } (by simp [Nd.cells, hk]) rfl rfl rfl rfl hsm
  · have e : movedS S d b x bd nd bb nb1 bx nx s l2 = upd (upd S d (some (bd, { nd with names := delL nd.names s }))) b (some (bb, { nb1 with names := l2 })) := by
      unfold movedS
      have e2 : ({ nx with parent := if nx.kind = 1 then b else nx.parent } : Nd) = nx := by rw [if_neg hk]
      rw [e2]; exact upd_self _ _ hS
    rw [e]; exact hmv
theorem MvW.at_x {w1 : World} {t : Nat} {S : Tab} {d b x bd bb bx : Nat} {nd nb1 nx : Nd} {s ar : ByteArray} {m m2 : Nat} {O1 O2 : Obj} {l2} (h : MvW w1 t S d b x bd bb bx nd nb1 nx s ar m m2 O1 O2 l2) (hx : S x = some (bx, nx)) (hxd : x ≠ d) (hxb : x ≠ b) (i j : Nat) :
    (((w1.drewN j).putObj m O1).drew.putObj m2 O2).cell? ⟨bx, i, none⟩ = nx.cells[i]? ∧ (((w1.drewN j).putObj m O1).drew.putObj m2 O2).frozen? ⟨bx, i, none⟩ = false := by
  have hS : upd (upd S d (some (bd, { nd with names := delL nd.names s }))) b (some (bb, { nb1 with names := l2 })) x = some (bx, nx) := by
    rw [upd_other _ _ hxb, upd_other _ _ hxd]; exact hx
  exact ⟨(h.mv j).rep.cellN hS i, (h.mv j).rep.frozenN hS i⟩
set_option maxHeartbeats 400000 in
theorem mv_no {w : World} {t : Nat} {S : Tab} (h : Rep w t S) (d b : Int) (s ar : ByteArray) (hn : S d.toNat = none ∨ S b.toNat = none) :
    Calls Try.prog 24 #[.pointer (some ⟨t, 0, none⟩), .int .i64 d, .string s, .int .i64 b, .string ar] w fun e w' => e = .returned (.int .i64 3) ∧ w = w' := by
  have H := Lib.hid h
  have HN := Lib.hid hn
  clear h hn
  go_enter Try.func24, Try.ntmps24
  go_wp2_with fail
  refine (pair_none H.out _ _ HN.out).mono ?_
  rintro e w' ⟨rfl, rfl⟩
  go_wp2
  go_ret
  exact ⟨rfl, rfl⟩
set_option maxRecDepth 100000 in
set_option maxHeartbeats 400000 in
theorem mv_kind1 {w : World} {t bd bb : Nat} {S : Tab} {nd nb : Nd} (h : Rep w t S) (d b : Int) (hd : S d.toNat = some (bd, nd)) (hb : S b.toNat = some (bb, nb)) (s ar : ByteArray) (hkd : ¬ nd.kind = 1) :
    Calls Try.prog 24 #[.pointer (some ⟨t, 0, none⟩), .int .i64 d, .string s, .int .i64 b, .string ar] w fun e w' => e = .returned (.int .i64 6) ∧ w = w' := by
  have c1 := h.c1 hd
  have hkb : (nd.kind != 1) = true := by simpa using hkd
  have H := Lib.hid h
  have HD := Lib.hid hd
  have HB := Lib.hid hb
  clear h hd hb hkd
  go_enter Try.func24, Try.ntmps24
  go_wp2_with fail
  refine (pair_ok H.out _ _ HD.out HB.out).mono ?_
  rintro e w' ⟨rfl, rfl⟩
  go_wp2
  go_ret
  exact ⟨rfl, rfl⟩
set_option maxRecDepth 100000 in
set_option maxHeartbeats 400000 in
theorem mv_kind2 {w : World} {t bd bb : Nat} {S : Tab} {nd nb : Nd} (h : Rep w t S) (d b : Int) (hd : S d.toNat = some (bd, nd)) (hb : S b.toNat = some (bb, nb)) (s ar : ByteArray) (hkd : nd.kind = 1) (hkb : ¬ nb.kind = 1) :
    Calls Try.prog 24 #[.pointer (some ⟨t, 0, none⟩), .int .i64 d, .string s, .int .i64 b, .string ar] w fun e w' => e = .returned (.int .i64 6) ∧ w = w' := by
  have c1 : w.cell? ⟨bd, 1, none⟩ = some (.int .i64 1) := by rw [h.c1 hd, hkd]
  have e1 := h.c1 hb
  have hkbb : (nb.kind != 1) = true := by simpa using hkb
  have H := Lib.hid h
  have HD := Lib.hid hd
  have HB := Lib.hid hb
  clear h hd hb hkd hkb
  go_enter Try.func24, Try.ntmps24
  go_wp2_with fail
  refine (pair_ok H.out _ _ HD.out HB.out).mono ?_
  rintro e w' ⟨rfl, rfl⟩
  go_wp2
  go_ret
  exact ⟨rfl, rfl⟩
set_option maxRecDepth 100000 in
set_option maxHeartbeats 400000 in
theorem mv_noent {w : World} {t bd bb : Nat} {S : Tab} {nd nb : Nd} (h : Rep w t S) (d b : Int) (hd : S d.toNat = some (bd, nd)) (hb : S b.toNat = some (bb, nb)) (s ar : ByteArray) (hkd : nd.kind = 1) (hkb : nb.kind = 1) (hl : look nd.names s = none) :
    Calls Try.prog 24 #[.pointer (some ⟨t, 0, none⟩), .int .i64 d, .string s, .int .i64 b, .string ar] w fun e w' => e = .returned (.int .i64 3) ∧ w = w' := by
  have c1 : w.cell? ⟨bd, 1, none⟩ = some (.int .i64 1) := by rw [h.c1 hd, hkd]
  have e1 : w.cell? ⟨bb, 1, none⟩ = some (.int .i64 1) := by rw [h.c1 hb, hkb]
  have HK := Lib.hid hkd
  have HKB := Lib.hid hkb
  have HL := Lib.hid hl
  have H := Lib.hid h
  have HD := Lib.hid hd
  have HB := Lib.hid hb
  clear h hd hb hkd hkb hl
  go_enter Try.func24, Try.ntmps24
  go_wp2_with fail
  refine (pair_ok H.out _ _ HD.out HB.out).mono ?_
  rintro e w' ⟨rfl, rfl⟩
  go_wp2_with fail
  refine (entry_none H.out HD.out HK.out _ HL.out).mono ?_
  rintro e w' ⟨rfl, rfl⟩
  go_wp2
  go_ret
  exact ⟨rfl, rfl⟩
set_option maxRecDepth 100000 in
set_option maxHeartbeats 400000 in
theorem mv_noname {w : World} {t bd bb : Nat} {S : Tab} {nd nb : Nd} (h : Rep w t S) (d b : Int) (hd : S d.toNat = some (bd, nd)) (hb : S b.toNat = some (bb, nb)) (s ar : ByteArray) (hkd : nd.kind = 1) (hkb : nb.kind = 1) {x bx : Nat} {nx : Nd} (hl : look nd.names s = some x) (hx : S x = some (bx, nx)) (hn : nameB ar = false) :
    Calls Try.prog 24 #[.pointer (some ⟨t, 0, none⟩), .int .i64 d, .string s, .int .i64 b, .string ar] w fun e w' => e = .returned (.int .i64 1) ∧ w = w' := by
  have c1 : w.cell? ⟨bd, 1, none⟩ = some (.int .i64 1) := by rw [h.c1 hd, hkd]
  have e1 : w.cell? ⟨bb, 1, none⟩ = some (.int .i64 1) := by rw [h.c1 hb, hkb]
  have HK := Lib.hid hkd
  have HKB := Lib.hid hkb
  have HL := Lib.hid hl
  have HX := Lib.hid hx
  have H := Lib.hid h
  have HD := Lib.hid hd
  have HB := Lib.hid hb
  clear h hd hb hkd hkb hl hx
  go_enter Try.func24, Try.ntmps24
  go_wp2_with fail
  refine (pair_ok H.out _ _ HD.out HB.out).mono ?_
  rintro e w' ⟨rfl, rfl⟩
  go_wp2_with fail
  refine (entry_some H.out HD.out HK.out _ _ HL.out HX.out).mono ?_
  rintro e w' ⟨rfl, rfl⟩
  go_wp2_with fail
  refine (name_any _ _).mono ?_
  rintro e w' ⟨rfl, rfl⟩
  go_wp2
  go_ret
  exact ⟨rfl, rfl⟩
set_option maxRecDepth 100000 in
set_option maxHeartbeats 400000 in
theorem mv_in {w : World} {t bd bb : Nat} {S : Tab} {nd nb : Nd} (h : Rep w t S) (d b : Int) (hd : S d.toNat = some (bd, nd)) (hb : S b.toNat = some (bb, nb)) (s ar : ByteArray) (hkd : nd.kind = 1) (hkb : nb.kind = 1) {x bx : Nat} {nx : Nd} (hl : look nd.names s = some x) (hx : S x = some (bx, nx)) (hn : nameB ar = true) (hkx : nx.kind = 1) (hwi : Calls Try.prog 51 #[.pointer (some ⟨t, 0, none⟩), .pointer (some ⟨bb, 0, none⟩), .pointer (some ⟨bx, 0, none⟩)] w fun e w' => e = .returned (.bool true) ∧ Below w.heap.size w w') :
    Calls Try.prog 24 #[.pointer (some ⟨t, 0, none⟩), .int .i64 d, .string s, .int .i64 b, .string ar] w fun e w' => e = .returned (.int .i64 8) ∧ Below w.heap.size w w' := by
  have c1 : w.cell? ⟨bd, 1, none⟩ = some (.int .i64 1) := by rw [h.c1 hd, hkd]
  have e1 : w.cell? ⟨bb, 1, none⟩ = some (.int .i64 1) := by rw [h.c1 hb, hkb]
  have HK := Lib.hid hkd
  have HKB := Lib.hid hkb
  have HL := Lib.hid hl
  have HX := Lib.hid hx
  have d1 : w.cell? ⟨bx, 1, none⟩ = some (.int .i64 1) := by rw [h.c1 hx, hkx]
  have HW := Lib.hid hwi
  have H := Lib.hid h
  have HD := Lib.hid hd
  have HB := Lib.hid hb
  clear h hd hb hkd hkb hl hx hkx hwi
  go_enter Try.func24, Try.ntmps24
  go_wp2_with fail
  refine (pair_ok H.out _ _ HD.out HB.out).mono ?_
  rintro e w' ⟨rfl, rfl⟩
  go_wp2_with fail
  refine (entry_some H.out HD.out HK.out _ _ HL.out HX.out).mono ?_
  rintro e w' ⟨rfl, rfl⟩
  go_wp2_with fail
  refine (name_any _ _).mono ?_
  rintro e w' ⟨rfl, rfl⟩
  go_wp2_with fail
  refine HW.out.mono ?_
  rintro e w' ⟨rfl, hbl⟩
  have HBL := Lib.hid hbl
  clear hbl
  go_wp2
  go_ret
  exact ⟨rfl, HBL.out⟩
set_option maxRecDepth 100000 in
set_option maxHeartbeats 400000 in
theorem mv_samed {w : World} {t bd bb : Nat} {S : Tab} {nd nb : Nd} (h : Rep w t S) (d b : Int) (hd : S d.toNat = some (bd, nd)) (hb : S b.toNat = some (bb, nb)) (s ar : ByteArray) (hkd : nd.kind = 1) (hkb : nb.kind = 1) {x bx : Nat} {nx : Nd} (hl : look nd.names s = some x) (hx : S x = some (bx, nx)) (hn : nameB ar = true) (hkx : nx.kind = 1) (hwi : Calls Try.prog 51 #[.pointer (some ⟨t, 0, none⟩), .pointer (some ⟨bb, 0, none⟩), .pointer (some ⟨bx, 0, none⟩)] w fun e w' => e = .returned (.bool false) ∧ Below w.heap.size w w') (hla : look nb.names ar = some x) :
    Calls Try.prog 24 #[.pointer (some ⟨t, 0, none⟩), .int .i64 d, .string s, .int .i64 b, .string ar] w fun e w' => e = .returned (.int .i64 0) ∧ Below w.heap.size w w' := by
  have c1 : w.cell? ⟨bd, 1, none⟩ = some (.int .i64 1) := by rw [h.c1 hd, hkd]
  have e1 : w.cell? ⟨bb, 1, none⟩ = some (.int .i64 1) := by rw [h.c1 hb, hkb]
  have HK := Lib.hid hkd
  have HKB := Lib.hid hkb
  have HL := Lib.hid hl
  have HX := Lib.hid hx
  have d1 : w.cell? ⟨bx, 1, none⟩ = some (.int .i64 1) := by rw [h.c1 hx, hkx]
  have HW := Lib.hid hwi
  have HKX := Lib.hid hkx
  have HLA := Lib.hid hla
  have H := Lib.hid h
  have HD := Lib.hid hd
  have HB := Lib.hid hb
  clear h hd hb hkd hkb hl hx hkx hwi hla
  go_enter Try.func24, Try.ntmps24
  go_wp2_with fail
  refine (pair_ok H.out _ _ HD.out HB.out).mono ?_
  rintro e w' ⟨rfl, rfl⟩
  go_wp2_with fail
  refine (entry_some H.out HD.out HK.out _ _ HL.out HX.out).mono ?_
  rintro e w' ⟨rfl, rfl⟩
  go_wp2_with fail
  refine (name_any _ _).mono ?_
  rintro e w' ⟨rfl, rfl⟩
  go_wp2_with fail
  refine HW.out.mono ?_
  rintro e wr ⟨rfl, hbl⟩
  have HMB := Lib.hid ((Mv.refl H.out).below hbl)
  have HBL := Lib.hid hbl
  clear hbl HW c1 e1 d1
  have HR := Lib.hid HMB.out.rep
  have d1 : wr.cell? ⟨bx, 1, none⟩ = some (.int .i64 1) := by rw [HR.out.c1 HX.out, HKX.out]
  have hq := eql_self wr bx
  go_wp2_with fail
  refine (entry_some HR.out HB.out HKB.out _ _ HLA.out HX.out).mono ?_
  rintro e w' ⟨rfl, rfl⟩
  go_wp2
  go_ret
  exact ⟨rfl, HBL.out⟩
set_option maxRecDepth 100000 in
set_option maxHeartbeats 400000 in
theorem mv_samef {w : World} {t bd bb : Nat} {S : Tab} {nd nb : Nd} (h : Rep w t S) (d b : Int) (hd : S d.toNat = some (bd, nd)) (hb : S b.toNat = some (bb, nb)) (s ar : ByteArray) (hkd : nd.kind = 1) (hkb : nb.kind = 1) {x bx : Nat} {nx : Nd} (hl : look nd.names s = some x) (hx : S x = some (bx, nx)) (hn : nameB ar = true) (hkx : ¬ nx.kind = 1) (hla : look nb.names ar = some x) :
    Calls Try.prog 24 #[.pointer (some ⟨t, 0, none⟩), .int .i64 d, .string s, .int .i64 b, .string ar] w fun e w' => e = .returned (.int .i64 0) ∧ Below w.heap.size w w' := by
  have c1 : w.cell? ⟨bd, 1, none⟩ = some (.int .i64 1) := by rw [h.c1 hd, hkd]
  have e1 : w.cell? ⟨bb, 1, none⟩ = some (.int .i64 1) := by rw [h.c1 hb, hkb]
  have HK := Lib.hid hkd
  have HKB := Lib.hid hkb
  have HL := Lib.hid hl
  have HX := Lib.hid hx
  have d1 := h.c1 hx
  have hkxb : (nx.kind == 1) = false := by simpa using hkx
  have HKX := Lib.hid hkx
  have HLA := Lib.hid hla
  have H := Lib.hid h
  have HD := Lib.hid hd
  have HB := Lib.hid hb
  clear h hd hb hkd hkb hl hx hkx hla
  go_enter Try.func24, Try.ntmps24
  go_wp2_with fail
  refine (pair_ok H.out _ _ HD.out HB.out).mono ?_
  rintro e w' ⟨rfl, rfl⟩
  go_wp2_with fail
  refine (entry_some H.out HD.out HK.out _ _ HL.out HX.out).mono ?_
  rintro e w' ⟨rfl, rfl⟩
  go_wp2_with fail
  refine (name_any _ _).mono ?_
  rintro e w' ⟨rfl, rfl⟩
  have HMB := Lib.hid (Mv.refl H.out)
  have HBL := Lib.hid (Below.refl w.heap.size w)
  have HR := Lib.hid H.out
  have hq := eql_self w bx
  go_wp2_with fail
  refine (entry_some HR.out HB.out HKB.out _ _ HLA.out HX.out).mono ?_
  rintro e w' ⟨rfl, rfl⟩
  go_wp2
  go_ret
  exact ⟨rfl, HBL.out⟩
set_option maxRecDepth 100000 in
set_option maxHeartbeats 400000 in
theorem mv_fulld {w : World} {t bd bb : Nat} {S : Tab} {nd nb : Nd} (h : Rep w t S) (d b : Int) (hd : S d.toNat = some (bd, nd)) (hb : S b.toNat = some (bb, nb)) (s ar : ByteArray) (hkd : nd.kind = 1) (hkb : nb.kind = 1) {x bx : Nat} {nx : Nd} (hl : look nd.names s = some x) (hx : S x = some (bx, nx)) (hn : nameB ar = true) (hkx : nx.kind = 1) (hwi : Calls Try.prog 51 #[.pointer (some ⟨t, 0, none⟩), .pointer (some ⟨bb, 0, none⟩), .pointer (some ⟨bx, 0, none⟩)] w fun e w' => e = .returned (.bool false) ∧ Below w.heap.size w w') (hla : look nb.names ar = none) (hdb : d.toNat ≠ b.toNat) (hfu : 40 ≤ nb.names.length) :
    Calls Try.prog 24 #[.pointer (some ⟨t, 0, none⟩), .int .i64 d, .string s, .int .i64 b, .string ar] w fun e w' => e = .returned (.int .i64 9) ∧ Below w.heap.size w w' := by
  have c1 : w.cell? ⟨bd, 1, none⟩ = some (.int .i64 1) := by rw [h.c1 hd, hkd]
  have e1 : w.cell? ⟨bb, 1, none⟩ = some (.int .i64 1) := by rw [h.c1 hb, hkb]
  have HK := Lib.hid hkd
  have HKB := Lib.hid hkb
  have HL := Lib.hid hl
  have HX := Lib.hid hx
  have d1 : w.cell? ⟨bx, 1, none⟩ = some (.int .i64 1) := by rw [h.c1 hx, hkx]
  have HW := Lib.hid hwi
  have HKX := Lib.hid hkx
  have HLA := Lib.hid hla
  obtain ⟨mb, hmb⟩ := h.dir_mp hb hkb
  have HMP := Lib.hid hmb
  have HDB : Hid (bd ≠ bb) := Lib.hid (fun e => hdb (h.inj _ _ _ _ _ (e ▸ hd) hb))
  have hn1 : 40 ≤ (nb.names.length : Int) := by omega
  have H := Lib.hid h
  have HD := Lib.hid hd
  have HB := Lib.hid hb
  clear h hd hb hkd hkb hl hx hkx hwi hla hmb hdb hfu
  go_enter Try.func24, Try.ntmps24
  go_wp2_with fail
  refine (pair_ok H.out _ _ HD.out HB.out).mono ?_
  rintro e w' ⟨rfl, rfl⟩
  go_wp2_with fail
  refine (entry_some H.out HD.out HK.out _ _ HL.out HX.out).mono ?_
  rintro e w' ⟨rfl, rfl⟩
  go_wp2_with fail
  refine (name_any _ _).mono ?_
  rintro e w' ⟨rfl, rfl⟩
  go_wp2_with fail
  refine HW.out.mono ?_
  rintro e wr ⟨rfl, hbl⟩
  have HMB := Lib.hid ((Mv.refl H.out).below hbl)
  have HBL := Lib.hid hbl
  clear hbl HW c1 e1 d1
  have HR := Lib.hid HMB.out.rep
  have d1 : wr.cell? ⟨bx, 1, none⟩ = some (.int .i64 1) := by rw [HR.out.c1 HX.out, HKX.out]
  have hq := fun (W : World) => eql_nil_some (P := Try.prog) W 68 ⟨bx, 0, none⟩ Try.underlying68
  have c10 : wr.cell? ⟨bb, 10, none⟩ = some (.map (some mb)) := by rw [HR.out.c10 HB.out, HMP.out]
  have hlen : ∀ ty, (Builtin.len_ #[84] ty #[.map (some mb)]).run Try.prog wr = .ok (.int .i64 nb.names.length) wr := fun ty => HMP.out ▸ HR.out.len HB.out ty
  have hne := neq_nodes (w := wr) (HR.out.node _ bd nd HD.out) (HR.out.node _ bb nb HB.out) HDB.out
  go_wp2_with fail
  refine (entry_none HR.out HB.out HKB.out _ HLA.out).mono ?_
  rintro e w' ⟨rfl, rfl⟩
  go_wp2
  go_ret
  exact ⟨rfl, HBL.out⟩
set_option maxRecDepth 100000 in
set_option maxHeartbeats 400000 in
theorem mv_fullf {w : World} {t bd bb : Nat} {S : Tab} {nd nb : Nd} (h : Rep w t S) (d b : Int) (hd : S d.toNat = some (bd, nd)) (hb : S b.toNat = some (bb, nb)) (s ar : ByteArray) (hkd : nd.kind = 1) (hkb : nb.kind = 1) {x bx : Nat} {nx : Nd} (hl : look nd.names s = some x) (hx : S x = some (bx, nx)) (hn : nameB ar = true) (hkx : ¬ nx.kind = 1) (hla : look nb.names ar = none) (hdb : d.toNat ≠ b.toNat) (hfu : 40 ≤ nb.names.length) :
    Calls Try.prog 24 #[.pointer (some ⟨t, 0, none⟩), .int .i64 d, .string s, .int .i64 b, .string ar] w fun e w' => e = .returned (.int .i64 9) ∧ Below w.heap.size w w' := by
  have c1 : w.cell? ⟨bd, 1, none⟩ = some (.int .i64 1) := by rw [h.c1 hd, hkd]
  have e1 : w.cell? ⟨bb, 1, none⟩ = some (.int .i64 1) := by rw [h.c1 hb, hkb]
  have HK := Lib.hid hkd
  have HKB := Lib.hid hkb
  have HL := Lib.hid hl
  have HX := Lib.hid hx
  have d1 := h.c1 hx
  have hkxb : (nx.kind == 1) = false := by simpa using hkx
  have HKX := Lib.hid hkx
  have HLA := Lib.hid hla
  obtain ⟨mb, hmb⟩ := h.dir_mp hb hkb
  have HMP := Lib.hid hmb
  have HDB : Hid (bd ≠ bb) := Lib.hid (fun e => hdb (h.inj _ _ _ _ _ (e ▸ hd) hb))
  have hn1 : 40 ≤ (nb.names.length : Int) := by omega
  have H := Lib.hid h
  have HD := Lib.hid hd
  have HB := Lib.hid hb
  clear h hd hb hkd hkb hl hx hkx hla hmb hdb hfu
  go_enter Try.func24, Try.ntmps24
  go_wp2_with fail
  refine (pair_ok H.out _ _ HD.out HB.out).mono ?_
  rintro e w' ⟨rfl, rfl⟩
  go_wp2_with fail
  refine (entry_some H.out HD.out HK.out _ _ HL.out HX.out).mono ?_
  rintro e w' ⟨rfl, rfl⟩
  go_wp2_with fail
  refine (name_any _ _).mono ?_
  rintro e w' ⟨rfl, rfl⟩
  have HMB := Lib.hid (Mv.refl H.out)
  have HBL := Lib.hid (Below.refl w.heap.size w)
  have HR := Lib.hid H.out
  have hq := fun (W : World) => eql_nil_some (P := Try.prog) W 68 ⟨bx, 0, none⟩ Try.underlying68
  have c10 : w.cell? ⟨bb, 10, none⟩ = some (.map (some mb)) := by rw [HR.out.c10 HB.out, HMP.out]
  have hlen : ∀ ty, (Builtin.len_ #[84] ty #[.map (some mb)]).run Try.prog w = .ok (.int .i64 nb.names.length) w := fun ty => HMP.out ▸ HR.out.len HB.out ty
  have hne := neq_nodes (w := w) (HR.out.node _ bd nd HD.out) (HR.out.node _ bb nb HB.out) HDB.out
  go_wp2_with fail
  refine (entry_none HR.out HB.out HKB.out _ HLA.out).mono ?_
  rintro e w' ⟨rfl, rfl⟩
  go_wp2
  go_ret
  exact ⟨rfl, HBL.out⟩
set_option maxRecDepth 100000 in
set_option maxHeartbeats 400000 in
theorem mv_kindsd {w : World} {t bd bb : Nat} {S : Tab} {nd nb : Nd} (h : Rep w t S) (d b : Int) (hd : S d.toNat = some (bd, nd)) (hb : S b.toNat = some (bb, nb)) (s ar : ByteArray) (hkd : nd.kind = 1) (hkb : nb.kind = 1) {x bx : Nat} {nx : Nd} (hl : look nd.names s = some x) (hx : S x = some (bx, nx)) (hn : nameB ar = true) (hkx : nx.kind = 1) (hwi : Calls Try.prog 51 #[.pointer (some ⟨t, 0, none⟩), .pointer (some ⟨bb, 0, none⟩), .pointer (some ⟨bx, 0, none⟩)] w fun e w' => e = .returned (.bool false) ∧ Below w.heap.size w w') {y by_ : Nat} {ny : Nd} (hla : look nb.names ar = some y) (hy : S y = some (by_, ny)) (hyx : y ≠ x) (hky : ¬ ny.kind = 1) :
    Calls Try.prog 24 #[.pointer (some ⟨t, 0, none⟩), .int .i64 d, .string s, .int .i64 b, .string ar] w fun e w' => e = .returned (.int .i64 7) ∧ Below w.heap.size w w' := by
  have c1 : w.cell? ⟨bd, 1, none⟩ = some (.int .i64 1) := by rw [h.c1 hd, hkd]
  have e1 : w.cell? ⟨bb, 1, none⟩ = some (.int .i64 1) := by rw [h.c1 hb, hkb]
  have HK := Lib.hid hkd
  have HKB := Lib.hid hkb
  have HL := Lib.hid hl
  have HX := Lib.hid hx
  have d1 : w.cell? ⟨bx, 1, none⟩ = some (.int .i64 1) := by rw [h.c1 hx, hkx]
  have HW := Lib.hid hwi
  have HKX := Lib.hid hkx
  have HLA := Lib.hid hla
  have HY := Lib.hid hy
  have HYX : Hid (by_ ≠ bx) := Lib.hid (fun e => hyx (h.inj _ _ _ _ _ (e ▸ hy) hx))
  have HKY := Lib.hid hky
  have H := Lib.hid h
  have HD := Lib.hid hd
  have HB := Lib.hid hb
  clear h hd hb hkd hkb hl hx hkx hwi hla hy hyx hky
  go_enter Try.func24, Try.ntmps24
  go_wp2_with fail
  refine (pair_ok H.out _ _ HD.out HB.out).mono ?_
  rintro e w' ⟨rfl, rfl⟩
  go_wp2_with fail
  refine (entry_some H.out HD.out HK.out _ _ HL.out HX.out).mono ?_
  rintro e w' ⟨rfl, rfl⟩
  go_wp2_with fail
  refine (name_any _ _).mono ?_
  rintro e w' ⟨rfl, rfl⟩
  go_wp2_with fail
  refine HW.out.mono ?_
  rintro e wr ⟨rfl, hbl⟩
  have HMB := Lib.hid ((Mv.refl H.out).below hbl)
  have HBL := Lib.hid hbl
  clear hbl HW c1 e1 d1
  have HR := Lib.hid HMB.out.rep
  have d1 : wr.cell? ⟨bx, 1, none⟩ = some (.int .i64 1) := by rw [HR.out.c1 HX.out, HKX.out]
  have hq := eql_nodes (w := wr) (HR.out.node _ by_ ny HY.out) (HR.out.node _ bx nx HX.out) HYX.out
  have g1 := HR.out.c1 HY.out
  have hkyb : (ny.kind == 1) = false := by have := HKY.out; simpa using this
  go_wp2_with fail
  refine (entry_some HR.out HB.out HKB.out _ _ HLA.out HY.out).mono ?_
  rintro e w' ⟨rfl, rfl⟩
  go_wp2
  go_quiet (fail)
  go_wp2
  go_ret
  exact ⟨rfl, belowDrewN HBL.out _⟩
set_option maxRecDepth 100000 in
set_option maxHeartbeats 400000 in
theorem mv_kindsf {w : World} {t bd bb : Nat} {S : Tab} {nd nb : Nd} (h : Rep w t S) (d b : Int) (hd : S d.toNat = some (bd, nd)) (hb : S b.toNat = some (bb, nb)) (s ar : ByteArray) (hkd : nd.kind = 1) (hkb : nb.kind = 1) {x bx : Nat} {nx : Nd} (hl : look nd.names s = some x) (hx : S x = some (bx, nx)) (hn : nameB ar = true) (hkx : ¬ nx.kind = 1) {y by_ : Nat} {ny : Nd} (hla : look nb.names ar = some y) (hy : S y = some (by_, ny)) (hyx : y ≠ x) (hky : ny.kind = 1) :
    Calls Try.prog 24 #[.pointer (some ⟨t, 0, none⟩), .int .i64 d, .string s, .int .i64 b, .string ar] w fun e w' => e = .returned (.int .i64 7) ∧ Below w.heap.size w w' := by
  have c1 : w.cell? ⟨bd, 1, none⟩ = some (.int .i64 1) := by rw [h.c1 hd, hkd]
  have e1 : w.cell? ⟨bb, 1, none⟩ = some (.int .i64 1) := by rw [h.c1 hb, hkb]
  have HK := Lib.hid hkd
  have HKB := Lib.hid hkb
  have HL := Lib.hid hl
  have HX := Lib.hid hx
  have d1 := h.c1 hx
  have hkxb : (nx.kind == 1) = false := by simpa using hkx
  have HKX := Lib.hid hkx
  have HLA := Lib.hid hla
  have HY := Lib.hid hy
  have HYX : Hid (by_ ≠ bx) := Lib.hid (fun e => hyx (h.inj _ _ _ _ _ (e ▸ hy) hx))
  have HKY := Lib.hid hky
  have H := Lib.hid h
  have HD := Lib.hid hd
  have HB := Lib.hid hb
  clear h hd hb hkd hkb hl hx hkx hla hy hyx hky
  go_enter Try.func24, Try.ntmps24
  go_wp2_with fail
  refine (pair_ok H.out _ _ HD.out HB.out).mono ?_
  rintro e w' ⟨rfl, rfl⟩
  go_wp2_with fail
  refine (entry_some H.out HD.out HK.out _ _ HL.out HX.out).mono ?_
  rintro e w' ⟨rfl, rfl⟩
  go_wp2_with fail
  refine (name_any _ _).mono ?_
  rintro e w' ⟨rfl, rfl⟩
  have HMB := Lib.hid (Mv.refl H.out)
  have HBL := Lib.hid (Below.refl w.heap.size w)
  have HR := Lib.hid H.out
  have hq := eql_nodes (w := w) (HR.out.node _ by_ ny HY.out) (HR.out.node _ bx nx HX.out) HYX.out
  have g1 : w.cell? ⟨by_, 1, none⟩ = some (.int .i64 1) := by rw [HR.out.c1 HY.out, HKY.out]
  go_wp2_with fail
  refine (entry_some HR.out HB.out HKB.out _ _ HLA.out HY.out).mono ?_
  rintro e w' ⟨rfl, rfl⟩
  go_wp2
  go_quiet (fail)
  go_wp2
  go_ret
  exact ⟨rfl, belowDrewN HBL.out _⟩
set_option maxRecDepth 100000 in
set_option maxHeartbeats 400000 in
theorem mv_busyd {w : World} {t bd bb : Nat} {S : Tab} {nd nb : Nd} (h : Rep w t S) (d b : Int) (hd : S d.toNat = some (bd, nd)) (hb : S b.toNat = some (bb, nb)) (s ar : ByteArray) (hkd : nd.kind = 1) (hkb : nb.kind = 1) {x bx : Nat} {nx : Nd} (hl : look nd.names s = some x) (hx : S x = some (bx, nx)) (hn : nameB ar = true) (hkx : nx.kind = 1) (hwi : Calls Try.prog 51 #[.pointer (some ⟨t, 0, none⟩), .pointer (some ⟨bb, 0, none⟩), .pointer (some ⟨bx, 0, none⟩)] w fun e w' => e = .returned (.bool false) ∧ Below w.heap.size w w') {y by_ : Nat} {ny : Nd} (hla : look nb.names ar = some y) (hy : S y = some (by_, ny)) (hyx : y ≠ x) (hny : 0 < ny.names.length) (hky : ny.kind = 1) :
    Calls Try.prog 24 #[.pointer (some ⟨t, 0, none⟩), .int .i64 d, .string s, .int .i64 b, .string ar] w fun e w' => e = .returned (.int .i64 8) ∧ Below w.heap.size w w' := by
  have c1 : w.cell? ⟨bd, 1, none⟩ = some (.int .i64 1) := by rw [h.c1 hd, hkd]
  have e1 : w.cell? ⟨bb, 1, none⟩ = some (.int .i64 1) := by rw [h.c1 hb, hkb]
  have HK := Lib.hid hkd
  have HKB := Lib.hid hkb
  have HL := Lib.hid hl
  have HX := Lib.hid hx
  have d1 : w.cell? ⟨bx, 1, none⟩ = some (.int .i64 1) := by rw [h.c1 hx, hkx]
  have HW := Lib.hid hwi
  have HKX := Lib.hid hkx
  have HLA := Lib.hid hla
  have HY := Lib.hid hy
  have HYX : Hid (by_ ≠ bx) := Lib.hid (fun e => hyx (h.inj _ _ _ _ _ (e ▸ hy) hx))
  have HKY := Lib.hid hky
  have hny1 : 0 < (ny.names.length : Int) := by omega
  have H := Lib.hid h
  have HD := Lib.hid hd
  have HB := Lib.hid hb
  clear h hd hb hkd hkb hl hx hkx hwi hla hy hyx hky hny
  go_enter Try.func24, Try.ntmps24
  go_wp2_with fail
  refine (pair_ok H.out _ _ HD.out HB.out).mono ?_
  rintro e w' ⟨rfl, rfl⟩
  go_wp2_with fail
  refine (entry_some H.out HD.out HK.out _ _ HL.out HX.out).mono ?_
  rintro e w' ⟨rfl, rfl⟩
  go_wp2_with fail
  refine (name_any _ _).mono ?_
  rintro e w' ⟨rfl, rfl⟩
  go_wp2_with fail
  refine HW.out.mono ?_
  rintro e wr ⟨rfl, hbl⟩
  have HMB := Lib.hid ((Mv.refl H.out).below hbl)
  have HBL := Lib.hid hbl
  clear hbl HW c1 e1 d1
  have HR := Lib.hid HMB.out.rep
  have d1 : wr.cell? ⟨bx, 1, none⟩ = some (.int .i64 1) := by rw [HR.out.c1 HX.out, HKX.out]
  have hq := eql_nodes (w := wr) (HR.out.node _ by_ ny HY.out) (HR.out.node _ bx nx HX.out) HYX.out
  have g1 : wr.cell? ⟨by_, 1, none⟩ = some (.int .i64 1) := by rw [HR.out.c1 HY.out, HKY.out]
  have g10 := HR.out.c10 HY.out
  have hleny : ∀ j ty, (Builtin.len_ #[84] ty #[.map ny.mp]).run Try.prog (wr.drewN j) = .ok (.int .i64 ny.names.length) (wr.drewN j) := fun j ty => by have e := (HR.out.drewN j).len HY.out ty; exact e
  go_wp2_with fail
  refine (entry_some HR.out HB.out HKB.out _ _ HLA.out HY.out).mono ?_
  rintro e w' ⟨rfl, rfl⟩
  go_wp2
  go_quiet (fail)
  go_wp2
  go_ret
  exact ⟨rfl, belowDrewN HBL.out _⟩
set_option maxRecDepth 100000 in
set_option maxHeartbeats 400000 in
theorem mv_busyf {w : World} {t bd bb : Nat} {S : Tab} {nd nb : Nd} (h : Rep w t S) (d b : Int) (hd : S d.toNat = some (bd, nd)) (hb : S b.toNat = some (bb, nb)) (s ar : ByteArray) (hkd : nd.kind = 1) (hkb : nb.kind = 1) {x bx : Nat} {nx : Nd} (hl : look nd.names s = some x) (hx : S x = some (bx, nx)) (hn : nameB ar = true) (hkx : ¬ nx.kind = 1) {y by_ : Nat} {ny : Nd} (hla : look nb.names ar = some y) (hy : S y = some (by_, ny)) (hyx : y ≠ x) (hny : 0 < ny.names.length) (hky : ¬ ny.kind = 1) :
    Calls Try.prog 24 #[.pointer (some ⟨t, 0, none⟩), .int .i64 d, .string s, .int .i64 b, .string ar] w fun e w' => e = .returned (.int .i64 8) ∧ Below w.heap.size w w' := by
  have c1 : w.cell? ⟨bd, 1, none⟩ = some (.int .i64 1) := by rw [h.c1 hd, hkd]
  have e1 : w.cell? ⟨bb, 1, none⟩ = some (.int .i64 1) := by rw [h.c1 hb, hkb]
  have HK := Lib.hid hkd
  have HKB := Lib.hid hkb
  have HL := Lib.hid hl
  have HX := Lib.hid hx
  have d1 := h.c1 hx
  have hkxb : (nx.kind == 1) = false := by simpa using hkx
  have HKX := Lib.hid hkx
  have HLA := Lib.hid hla
  have HY := Lib.hid hy
  have HYX : Hid (by_ ≠ bx) := Lib.hid (fun e => hyx (h.inj _ _ _ _ _ (e ▸ hy) hx))
  have HKY := Lib.hid hky
  have hny1 : 0 < (ny.names.length : Int) := by omega
  have H := Lib.hid h
  have HD := Lib.hid hd
  have HB := Lib.hid hb
  clear h hd hb hkd hkb hl hx hkx hla hy hyx hky hny
  go_enter Try.func24, Try.ntmps24
  go_wp2_with fail
  refine (pair_ok H.out _ _ HD.out HB.out).mono ?_
  rintro e w' ⟨rfl, rfl⟩
  go_wp2_with fail
  refine (entry_some H.out HD.out HK.out _ _ HL.out HX.out).mono ?_
  rintro e w' ⟨rfl, rfl⟩
  go_wp2_with fail
  refine (name_any _ _).mono ?_
  rintro e w' ⟨rfl, rfl⟩
  have HMB := Lib.hid (Mv.refl H.out)
  have HBL := Lib.hid (Below.refl w.heap.size w)
  have HR := Lib.hid H.out
  have hq := eql_nodes (w := w) (HR.out.node _ by_ ny HY.out) (HR.out.node _ bx nx HX.out) HYX.out
  have g1 := HR.out.c1 HY.out
  have hkyb : (ny.kind == 1) = false := by have := HKY.out; simpa using this
  have g10 := HR.out.c10 HY.out
  have hleny : ∀ j ty, (Builtin.len_ #[84] ty #[.map ny.mp]).run Try.prog (w.drewN j) = .ok (.int .i64 ny.names.length) (w.drewN j) := fun j ty => by have e := (HR.out.drewN j).len HY.out ty; exact e
  go_wp2_with fail
  refine (entry_some HR.out HB.out HKB.out _ _ HLA.out HY.out).mono ?_
  rintro e w' ⟨rfl, rfl⟩
  go_wp2
  go_quiet (fail)
  go_wp2
  go_ret
  exact ⟨rfl, belowDrewN HBL.out _⟩
set_option maxRecDepth 100000 in
set_option maxHeartbeats 800000 in
theorem mv_oksd {w : World} {t bd bb : Nat} {S : Tab} {nd nb : Nd} (h : Rep w t S) (d b : Int) (hd : S d.toNat = some (bd, nd)) (hb : S b.toNat = some (bb, nb)) (s ar : ByteArray) (hkd : nd.kind = 1) (hkb : nb.kind = 1) {x bx : Nat} {nx : Nd} (hl : look nd.names s = some x) (hx : S x = some (bx, nx)) (hn : nameB ar = true) (hkx : nx.kind = 1) (hwi : Calls Try.prog 51 #[.pointer (some ⟨t, 0, none⟩), .pointer (some ⟨bb, 0, none⟩), .pointer (some ⟨bx, 0, none⟩)] w fun e w' => e = .returned (.bool false) ∧ Below w.heap.size w w') (hla : look nb.names ar = none) (hdb : d.toNat = b.toNat) (hxd : x ≠ d.toNat) (hxb : x ≠ b.toNat) {nb1 : Nd} (hnb1 : nb1 = (if b.toNat = d.toNat then { nd with names := delL nd.names s } else nb)) (h40 : (delL nb1.names ar).length < 40) :
    Calls Try.prog 24 #[.pointer (some ⟨t, 0, none⟩), .int .i64 d, .string s, .int .i64 b, .string ar] w fun e w' => e = .returned (.int .i64 0) ∧ ∃ l2 : List (ByteArray × Nat), l2.Perm ((ar, x) :: delL nb1.names ar) ∧ Mv w t S w' (movedS S d.toNat b.toNat x bd nd bb nb1 bx nx s l2) := by
  have c1 : w.cell? ⟨bd, 1, none⟩ = some (.int .i64 1) := by rw [h.c1 hd, hkd]
  have e1 : w.cell? ⟨bb, 1, none⟩ = some (.int .i64 1) := by rw [h.c1 hb, hkb]
  have HK := Lib.hid hkd
  have HKB := Lib.hid hkb
  have HL := Lib.hid hl
  have HX := Lib.hid hx
  have d1 : w.cell? ⟨bx, 1, none⟩ = some (.int .i64 1) := by rw [h.c1 hx, hkx]
  have HW := Lib.hid hwi
  have HKX := Lib.hid hkx
  have HLA := Lib.hid hla
  have HN1 := Lib.hid hnb1
  have HXD := Lib.hid hxd
  have HXB := Lib.hid hxb
  have H40 := Lib.hid h40
  have HBP : Hid (((b.toNat : Nat) : Int) = b) := Lib.hid (by have := h.rng _ _ hb; omega)
  have HDB : Hid (bb = bd) := Lib.hid (by rw [hdb, hb] at hd; exact (Prod.mk.inj (Option.some.inj hd)).1)
  have H := Lib.hid h
  have HD := Lib.hid hd
  have HB := Lib.hid hb
  clear h hd hb hkd hkb hl hx hkx hwi hla hdb hxd hxb h40 hnb1
  go_enter Try.func24, Try.ntmps24
  go_wp2_with fail
  refine (pair_ok H.out _ _ HD.out HB.out).mono ?_
  rintro e w' ⟨rfl, rfl⟩
  go_wp2_with fail
  refine (entry_some H.out HD.out HK.out _ _ HL.out HX.out).mono ?_
  rintro e w' ⟨rfl, rfl⟩
  go_wp2_with fail
  refine (name_any _ _).mono ?_
  rintro e w' ⟨rfl, rfl⟩
  go_wp2_with fail
  refine HW.out.mono ?_
  rintro e wr ⟨rfl, hbl⟩
  have HMB := Lib.hid ((Mv.refl H.out).below hbl)
  have HBL := Lib.hid hbl
  clear hbl HW c1 e1 d1
  have HR := Lib.hid HMB.out.rep
  have d1 : wr.cell? ⟨bx, 1, none⟩ = some (.int .i64 1) := by rw [HR.out.c1 HX.out, HKX.out]
  have hq := fun (W : World) => eql_nil_some (P := Try.prog) W 68 ⟨bx, 0, none⟩ Try.underlying68
  have hne : (binOp .neq 68 (.pointer (some ⟨bd, 0, none⟩)) (.pointer (some ⟨bb, 0, none⟩))).run Try.prog wr = .ok (.bool false) wr := by rw [HDB.out]; exact neq_self wr bd
  go_wp2_with fail
  refine (entry_none HR.out HB.out HKB.out _ HLA.out).mono ?_
  rintro e w' ⟨rfl, rfl⟩
  obtain ⟨m, m2, O1, O2, l2, hmw⟩ := mvW_of HR.out HD.out HB.out HX.out HK.out HKB.out HXD.out HXB.out s ar HL.out HN1.out H40.out
  have HM := Lib.hid hmw
  have q1 := hmw.rdel
  have q2 := hmw.rupd
  have q3 := hmw.c10
  have q4 := hmw.c0
  have q5 : ∀ j, (((wr.drewN j).putObj m O1).drew.putObj m2 O2).cell? ⟨bx, 1, none⟩ = some (.int .i64 1) := fun j => by rw [(HM.out.at_x HX.out HXD.out HXB.out 1 j).1]; show some (Value.int .i64 nx.kind) = _; rw [HKX.out]
  have q6 : ∀ j, (((wr.drewN j).putObj m O1).drew.putObj m2 O2).cell? ⟨bx, 11, none⟩ = some (.int .i64 (nx.parent : Int)) := fun j => (HM.out.at_x HX.out HXD.out HXB.out 11 j).1
  have q7 : ∀ j, (((wr.drewN j).putObj m O1).drew.putObj m2 O2).frozen? ⟨bx, 11, none⟩ = false := fun j => (HM.out.at_x HX.out HXD.out HXB.out 11 j).2
  have c10d : wr.cell? ⟨bd, 10, none⟩ = some (.map (some m)) := by rw [HR.out.c10 HD.out, HM.out.mpd]
  clear hmw
  go_wp2
  go_quiet (fail)
  go_wp2
  go_region
  go_wp2
  go_ret
  exact ⟨rfl, l2, HM.out.perm, by have e := fun j => HMB.out.trans ((HM.out.fin HX.out HXD.out HXB.out j).1 HKX.out); simp only [HBP.out] at e; exact e _⟩
set_option maxRecDepth 100000 in
set_option maxHeartbeats 800000 in
theorem mv_oksf {w : World} {t bd bb : Nat} {S : Tab} {nd nb : Nd} (h : Rep w t S) (d b : Int) (hd : S d.toNat = some (bd, nd)) (hb : S b.toNat = some (bb, nb)) (s ar : ByteArray) (hkd : nd.kind = 1) (hkb : nb.kind = 1) {x bx : Nat} {nx : Nd} (hl : look nd.names s = some x) (hx : S x = some (bx, nx)) (hn : nameB ar = true) (hkx : ¬ nx.kind = 1) (hla : look nb.names ar = none) (hdb : d.toNat = b.toNat) (hxd : x ≠ d.toNat) (hxb : x ≠ b.toNat) {nb1 : Nd} (hnb1 : nb1 = (if b.toNat = d.toNat then { nd with names := delL nd.names s } else nb)) (h40 : (delL nb1.names ar).length < 40) :
    Calls Try.prog 24 #[.pointer (some ⟨t, 0, none⟩), .int .i64 d, .string s, .int .i64 b, .string ar] w fun e w' => e = .returned (.int .i64 0) ∧ ∃ l2 : List (ByteArray × Nat), l2.Perm ((ar, x) :: delL nb1.names ar) ∧ Mv w t S w' (movedS S d.toNat b.toNat x bd nd bb nb1 bx nx s l2) := by
  have c1 : w.cell? ⟨bd, 1, none⟩ = some (.int .i64 1) := by rw [h.c1 hd, hkd]
  have e1 : w.cell? ⟨bb, 1, none⟩ = some (.int .i64 1) := by rw [h.c1 hb, hkb]
  have HK := Lib.hid hkd
  have HKB := Lib.hid hkb
  have HL := Lib.hid hl
  have HX := Lib.hid hx
  have d1 := h.c1 hx
  have hkxb : (nx.kind == 1) = false := by simpa using hkx
  have HKX := Lib.hid hkx
  have HLA := Lib.hid hla
  have HN1 := Lib.hid hnb1
  have HXD := Lib.hid hxd
  have HXB := Lib.hid hxb
  have H40 := Lib.hid h40
  have HBP : Hid (((b.toNat : Nat) : Int) = b) := Lib.hid (by have := h.rng _ _ hb; omega)
  have HDB : Hid (bb = bd) := Lib.hid (by rw [hdb, hb] at hd; exact (Prod.mk.inj (Option.some.inj hd)).1)
  have H := Lib.hid h
  have HD := Lib.hid hd
  have HB := Lib.hid hb
  clear h hd hb hkd hkb hl hx hkx hla hdb hxd hxb h40 hnb1
  go_enter Try.func24, Try.ntmps24
  go_wp2_with fail
  refine (pair_ok H.out _ _ HD.out HB.out).mono ?_
  rintro e w' ⟨rfl, rfl⟩
  go_wp2_with fail
  refine (entry_some H.out HD.out HK.out _ _ HL.out HX.out).mono ?_
  rintro e w' ⟨rfl, rfl⟩
  go_wp2_with fail
  refine (name_any _ _).mono ?_
  rintro e w' ⟨rfl, rfl⟩
  have HMB := Lib.hid (Mv.refl H.out)
  have HBL := Lib.hid (Below.refl w.heap.size w)
  have HR := Lib.hid H.out
  have hq := fun (W : World) => eql_nil_some (P := Try.prog) W 68 ⟨bx, 0, none⟩ Try.underlying68
  have hne : (binOp .neq 68 (.pointer (some ⟨bd, 0, none⟩)) (.pointer (some ⟨bb, 0, none⟩))).run Try.prog w = .ok (.bool false) w := by rw [HDB.out]; exact neq_self w bd
  go_wp2_with fail
  refine (entry_none HR.out HB.out HKB.out _ HLA.out).mono ?_
  rintro e w' ⟨rfl, rfl⟩
  obtain ⟨m, m2, O1, O2, l2, hmw⟩ := mvW_of HR.out HD.out HB.out HX.out HK.out HKB.out HXD.out HXB.out s ar HL.out HN1.out H40.out
  have HM := Lib.hid hmw
  have q1 := hmw.rdel
  have q2 := hmw.rupd
  have q3 := hmw.c10
  have q4 := hmw.c0
  have q5 : ∀ j, (((w.drewN j).putObj m O1).drew.putObj m2 O2).cell? ⟨bx, 1, none⟩ = some (.int .i64 nx.kind) := fun j => by rw [(HM.out.at_x HX.out HXD.out HXB.out 1 j).1]; rfl
  have c10d : w.cell? ⟨bd, 10, none⟩ = some (.map (some m)) := by rw [HR.out.c10 HD.out, HM.out.mpd]
  clear hmw
  go_wp2
  go_quiet (fail)
  go_wp2
  go_region
  go_wp2
  go_ret
  exact ⟨rfl, l2, HM.out.perm, by have e := fun j => HMB.out.trans ((HM.out.fin HX.out HXD.out HXB.out j).2 HKX.out); exact e _⟩
set_option maxRecDepth 100000 in
set_option maxHeartbeats 800000 in
theorem mv_oknd {w : World} {t bd bb : Nat} {S : Tab} {nd nb : Nd} (h : Rep w t S) (d b : Int) (hd : S d.toNat = some (bd, nd)) (hb : S b.toNat = some (bb, nb)) (s ar : ByteArray) (hkd : nd.kind = 1) (hkb : nb.kind = 1) {x bx : Nat} {nx : Nd} (hl : look nd.names s = some x) (hx : S x = some (bx, nx)) (hn : nameB ar = true) (hkx : nx.kind = 1) (hwi : Calls Try.prog 51 #[.pointer (some ⟨t, 0, none⟩), .pointer (some ⟨bb, 0, none⟩), .pointer (some ⟨bx, 0, none⟩)] w fun e w' => e = .returned (.bool false) ∧ Below w.heap.size w w') (hla : look nb.names ar = none) (hdb : d.toNat ≠ b.toNat) (hfu : nb.names.length < 40) (hxd : x ≠ d.toNat) (hxb : x ≠ b.toNat) {nb1 : Nd} (hnb1 : nb1 = (if b.toNat = d.toNat then { nd with names := delL nd.names s } else nb)) (h40 : (delL nb1.names ar).length < 40) :
    Calls Try.prog 24 #[.pointer (some ⟨t, 0, none⟩), .int .i64 d, .string s, .int .i64 b, .string ar] w fun e w' => e = .returned (.int .i64 0) ∧ ∃ l2 : List (ByteArray × Nat), l2.Perm ((ar, x) :: delL nb1.names ar) ∧ Mv w t S w' (movedS S d.toNat b.toNat x bd nd bb nb1 bx nx s l2) := by
  have c1 : w.cell? ⟨bd, 1, none⟩ = some (.int .i64 1) := by rw [h.c1 hd, hkd]
  have e1 : w.cell? ⟨bb, 1, none⟩ = some (.int .i64 1) := by rw [h.c1 hb, hkb]
  have HK := Lib.hid hkd
  have HKB := Lib.hid hkb
  have HL := Lib.hid hl
  have HX := Lib.hid hx
  have d1 : w.cell? ⟨bx, 1, none⟩ = some (.int .i64 1) := by rw [h.c1 hx, hkx]
  have HW := Lib.hid hwi
  have HKX := Lib.hid hkx
  have HLA := Lib.hid hla
  have HN1 := Lib.hid hnb1
  have HXD := Lib.hid hxd
  have HXB := Lib.hid hxb
  have H40 := Lib.hid h40
  have HBP : Hid (((b.toNat : Nat) : Int) = b) := Lib.hid (by have := h.rng _ _ hb; omega)
  obtain ⟨mb, hmb⟩ := h.dir_mp hb hkb
  have HMP := Lib.hid hmb
  have HDB : Hid (bd ≠ bb) := Lib.hid (fun e => hdb (h.inj _ _ _ _ _ (e ▸ hd) hb))
  have hn1 : (nb.names.length : Int) < 40 := by omega
  have H := Lib.hid h
  have HD := Lib.hid hd
  have HB := Lib.hid hb
  clear h hd hb hkd hkb hl hx hkx hwi hla hmb hdb hfu hxd hxb h40 hnb1
  go_enter Try.func24, Try.ntmps24
  go_wp2_with fail
  refine (pair_ok H.out _ _ HD.out HB.out).mono ?_
  rintro e w' ⟨rfl, rfl⟩
  go_wp2_with fail
  refine (entry_some H.out HD.out HK.out _ _ HL.out HX.out).mono ?_
  rintro e w' ⟨rfl, rfl⟩
  go_wp2_with fail
  refine (name_any _ _).mono ?_
  rintro e w' ⟨rfl, rfl⟩
  go_wp2_with fail
  refine HW.out.mono ?_
  rintro e wr ⟨rfl, hbl⟩
  have HMB := Lib.hid ((Mv.refl H.out).below hbl)
  have HBL := Lib.hid hbl
  clear hbl HW c1 e1 d1
  have HR := Lib.hid HMB.out.rep
  have d1 : wr.cell? ⟨bx, 1, none⟩ = some (.int .i64 1) := by rw [HR.out.c1 HX.out, HKX.out]
  have hq := fun (W : World) => eql_nil_some (P := Try.prog) W 68 ⟨bx, 0, none⟩ Try.underlying68
  have c10 : wr.cell? ⟨bb, 10, none⟩ = some (.map (some mb)) := by rw [HR.out.c10 HB.out, HMP.out]
  have hlen : ∀ ty, (Builtin.len_ #[84] ty #[.map (some mb)]).run Try.prog wr = .ok (.int .i64 nb.names.length) wr := fun ty => HMP.out ▸ HR.out.len HB.out ty
  have hne := neq_nodes (w := wr) (HR.out.node _ bd nd HD.out) (HR.out.node _ bb nb HB.out) HDB.out
  go_wp2_with fail
  refine (entry_none HR.out HB.out HKB.out _ HLA.out).mono ?_
  rintro e w' ⟨rfl, rfl⟩
  obtain ⟨m, m2, O1, O2, l2, hmw⟩ := mvW_of HR.out HD.out HB.out HX.out HK.out HKB.out HXD.out HXB.out s ar HL.out HN1.out H40.out
  have HM := Lib.hid hmw
  have q1 := hmw.rdel
  have q2 := hmw.rupd
  have q3 := hmw.c10
  have q4 := hmw.c0
  have q5 : ∀ j, (((wr.drewN j).putObj m O1).drew.putObj m2 O2).cell? ⟨bx, 1, none⟩ = some (.int .i64 1) := fun j => by rw [(HM.out.at_x HX.out HXD.out HXB.out 1 j).1]; show some (Value.int .i64 nx.kind) = _; rw [HKX.out]
  have q6 : ∀ j, (((wr.drewN j).putObj m O1).drew.putObj m2 O2).cell? ⟨bx, 11, none⟩ = some (.int .i64 (nx.parent : Int)) := fun j => (HM.out.at_x HX.out HXD.out HXB.out 11 j).1
  have q7 : ∀ j, (((wr.drewN j).putObj m O1).drew.putObj m2 O2).frozen? ⟨bx, 11, none⟩ = false := fun j => (HM.out.at_x HX.out HXD.out HXB.out 11 j).2
  have c10d : wr.cell? ⟨bd, 10, none⟩ = some (.map (some m)) := by rw [HR.out.c10 HD.out, HM.out.mpd]
  clear hmw
  go_wp2
  go_quiet (fail)
  go_wp2
  go_region
  go_wp2
  go_ret
  exact ⟨rfl, l2, HM.out.perm, by have e := fun j => HMB.out.trans ((HM.out.fin HX.out HXD.out HXB.out j).1 HKX.out); simp only [HBP.out] at e; exact e _⟩
set_option maxRecDepth 100000 in
set_option maxHeartbeats 800000 in
theorem mv_oknf {w : World} {t bd bb : Nat} {S : Tab} {nd nb : Nd} (h : Rep w t S) (d b : Int) (hd : S d.toNat = some (bd, nd)) (hb : S b.toNat = some (bb, nb)) (s ar : ByteArray) (hkd : nd.kind = 1) (hkb : nb.kind = 1) {x bx : Nat} {nx : Nd} (hl : look nd.names s = some x) (hx : S x = some (bx, nx)) (hn : nameB ar = true) (hkx : ¬ nx.kind = 1) (hla : look nb.names ar = none) (hdb : d.toNat ≠ b.toNat) (hfu : nb.names.length < 40) (hxd : x ≠ d.toNat) (hxb : x ≠ b.toNat) {nb1 : Nd} (hnb1 : nb1 = (if b.toNat = d.toNat then { nd with names := delL nd.names s } else nb)) (h40 : (delL nb1.names ar).length < 40) :
    Calls Try.prog 24 #[.pointer (some ⟨t, 0, none⟩), .int .i64 d, .string s, .int .i64 b, .string ar] w fun e w' => e = .returned (.int .i64 0) ∧ ∃ l2 : List (ByteArray × Nat), l2.Perm ((ar, x) :: delL nb1.names ar) ∧ Mv w t S w' (movedS S d.toNat b.toNat x bd nd bb nb1 bx nx s l2) := by
  have c1 : w.cell? ⟨bd, 1, none⟩ = some (.int .i64 1) := by rw [h.c1 hd, hkd]
  have e1 : w.cell? ⟨bb, 1, none⟩ = some (.int .i64 1) := by rw [h.c1 hb, hkb]
  have HK := Lib.hid hkd
  have HKB := Lib.hid hkb
  have HL := Lib.hid hl
  have HX := Lib.hid hx
  have d1 := h.c1 hx
  have hkxb : (nx.kind == 1) = false := by simpa using hkx
  have HKX := Lib.hid hkx
  have HLA := Lib.hid hla
  have HN1 := Lib.hid hnb1
  have HXD := Lib.hid hxd
  have HXB := Lib.hid hxb
  have H40 := Lib.hid h40
  have HBP : Hid (((b.toNat : Nat) : Int) = b) := Lib.hid (by have := h.rng _ _ hb; omega)
  obtain ⟨mb, hmb⟩ := h.dir_mp hb hkb
  have HMP := Lib.hid hmb
  have HDB : Hid (bd ≠ bb) := Lib.hid (fun e => hdb (h.inj _ _ _ _ _ (e ▸ hd) hb))
  have hn1 : (nb.names.length : Int) < 40 := by omega
  have H := Lib.hid h
  have HD := Lib.hid hd
  have HB := Lib.hid hb
  clear h hd hb hkd hkb hl hx hkx hla hmb hdb hfu hxd hxb h40 hnb1
  go_enter Try.func24, Try.ntmps24
  go_wp2_with fail
  refine (pair_ok H.out _ _ HD.out HB.out).mono ?_
  rintro e w' ⟨rfl, rfl⟩
  go_wp2_with fail
  refine (entry_some H.out HD.out HK.out _ _ HL.out HX.out).mono ?_
  rintro e w' ⟨rfl, rfl⟩
  go_wp2_with fail
  refine (name_any _ _).mono ?_
  rintro e w' ⟨rfl, rfl⟩
  have HMB := Lib.hid (Mv.refl H.out)
  have HBL := Lib.hid (Below.refl w.heap.size w)
  have HR := Lib.hid H.out
  have hq := fun (W : World) => eql_nil_some (P := Try.prog) W 68 ⟨bx, 0, none⟩ Try.underlying68
  have c10 : w.cell? ⟨bb, 10, none⟩ = some (.map (some mb)) := by rw [HR.out.c10 HB.out, HMP.out]
  have hlen : ∀ ty, (Builtin.len_ #[84] ty #[.map (some mb)]).run Try.prog w = .ok (.int .i64 nb.names.length) w := fun ty => HMP.out ▸ HR.out.len HB.out ty
  have hne := neq_nodes (w := w) (HR.out.node _ bd nd HD.out) (HR.out.node _ bb nb HB.out) HDB.out
  go_wp2_with fail
  refine (entry_none HR.out HB.out HKB.out _ HLA.out).mono ?_
  rintro e w' ⟨rfl, rfl⟩
  obtain ⟨m, m2, O1, O2, l2, hmw⟩ := mvW_of HR.out HD.out HB.out HX.out HK.out HKB.out HXD.out HXB.out s ar HL.out HN1.out H40.out
  have HM := Lib.hid hmw
  have q1 := hmw.rdel
  have q2 := hmw.rupd
  have q3 := hmw.c10
  have q4 := hmw.c0
  have q5 : ∀ j, (((w.drewN j).putObj m O1).drew.putObj m2 O2).cell? ⟨bx, 1, none⟩ = some (.int .i64 nx.kind) := fun j => by rw [(HM.out.at_x HX.out HXD.out HXB.out 1 j).1]; rfl
  have c10d : w.cell? ⟨bd, 10, none⟩ = some (.map (some m)) := by rw [HR.out.c10 HD.out, HM.out.mpd]
  clear hmw
  go_wp2
  go_quiet (fail)
  go_wp2
  go_region
  go_wp2
  go_ret
  exact ⟨rfl, l2, HM.out.perm, by have e := fun j => HMB.out.trans ((HM.out.fin HX.out HXD.out HXB.out j).2 HKX.out); exact e _⟩
set_option maxRecDepth 100000 in
set_option maxHeartbeats 800000 in
theorem mv_overd {w : World} {t bd bb : Nat} {S : Tab} {nd nb : Nd} (h : Rep w t S) (d b : Int) (hd : S d.toNat = some (bd, nd)) (hb : S b.toNat = some (bb, nb)) (s ar : ByteArray) (hkd : nd.kind = 1) (hkb : nb.kind = 1) {x bx : Nat} {nx : Nd} (hl : look nd.names s = some x) (hx : S x = some (bx, nx)) (hn : nameB ar = true) (hkx : nx.kind = 1) (hwi : Calls Try.prog 51 #[.pointer (some ⟨t, 0, none⟩), .pointer (some ⟨bb, 0, none⟩), .pointer (some ⟨bx, 0, none⟩)] w fun e w' => e = .returned (.bool false) ∧ Below w.heap.size w w') {y by_ : Nat} {ny : Nd} (hla : look nb.names ar = some y) (hy : S y = some (by_, ny)) (hyx : y ≠ x) (hxd : x ≠ d.toNat) (hxb : x ≠ b.toNat) {nb1 : Nd} (hnb1 : nb1 = (if b.toNat = d.toNat then { nd with names := delL nd.names s } else nb)) (h40 : (delL nb1.names ar).length < 40) (hny : ny.names = []) {Q : World → Prop} (hlo : ∀ (w1 : World) (l2 : List (ByteArray × Nat)), l2.Perm ((ar, x) :: delL nb1.names ar) → Mv w t S w1 (movedS S d.toNat b.toNat x bd nd bb nb1 bx nx s l2) → Calls Try.prog 53 #[.pointer (some ⟨t, 0, none⟩), .pointer (some ⟨by_, 0, none⟩)] w1 fun e w' => e = .returned (.tuple #[]) ∧ Q w') (hky : ny.kind = 1) :
    Calls Try.prog 24 #[.pointer (some ⟨t, 0, none⟩), .int .i64 d, .string s, .int .i64 b, .string ar] w fun e w' => e = .returned (.int .i64 0) ∧ Q w' := by
  have c1 : w.cell? ⟨bd, 1, none⟩ = some (.int .i64 1) := by rw [h.c1 hd, hkd]
  have e1 : w.cell? ⟨bb, 1, none⟩ = some (.int .i64 1) := by rw [h.c1 hb, hkb]
  have HK := Lib.hid hkd
  have HKB := Lib.hid hkb
  have HL := Lib.hid hl
  have HX := Lib.hid hx
  have d1 : w.cell? ⟨bx, 1, none⟩ = some (.int .i64 1) := by rw [h.c1 hx, hkx]
  have HW := Lib.hid hwi
  have HKX := Lib.hid hkx
  have HLA := Lib.hid hla
  have HY := Lib.hid hy
  have HYX : Hid (by_ ≠ bx) := Lib.hid (fun e => hyx (h.inj _ _ _ _ _ (e ▸ hy) hx))
  have HN1 := Lib.hid hnb1
  have HXD := Lib.hid hxd
  have HXB := Lib.hid hxb
  have H40 := Lib.hid h40
  have HBP : Hid (((b.toNat : Nat) : Int) = b) := Lib.hid (by have := h.rng _ _ hb; omega)
  have HKY := Lib.hid hky
  have HNY := Lib.hid hny
  have HLO := Lib.hid hlo
  have H := Lib.hid h
  have HD := Lib.hid hd
  have HB := Lib.hid hb
  clear h hd hb hkd hkb hl hx hkx hwi hla hy hyx hky hny hlo hxd hxb h40 hnb1
  go_enter Try.func24, Try.ntmps24
  go_wp2_with fail
  refine (pair_ok H.out _ _ HD.out HB.out).mono ?_
  rintro e w' ⟨rfl, rfl⟩
  go_wp2_with fail
  refine (entry_some H.out HD.out HK.out _ _ HL.out HX.out).mono ?_
  rintro e w' ⟨rfl, rfl⟩
  go_wp2_with fail
  refine (name_any _ _).mono ?_
  rintro e w' ⟨rfl, rfl⟩
  go_wp2_with fail
  refine HW.out.mono ?_
  rintro e wr ⟨rfl, hbl⟩
  have HMB := Lib.hid ((Mv.refl H.out).below hbl)
  have HBL := Lib.hid hbl
  clear hbl HW c1 e1 d1
  have HR := Lib.hid HMB.out.rep
  have d1 : wr.cell? ⟨bx, 1, none⟩ = some (.int .i64 1) := by rw [HR.out.c1 HX.out, HKX.out]
  have hq := eql_nodes (w := wr) (HR.out.node _ by_ ny HY.out) (HR.out.node _ bx nx HX.out) HYX.out
  have g1 : wr.cell? ⟨by_, 1, none⟩ = some (.int .i64 1) := by rw [HR.out.c1 HY.out, HKY.out]
  have g10 := HR.out.c10 HY.out
  have hleny : ∀ j ty, (Builtin.len_ #[84] ty #[.map ny.mp]).run Try.prog (wr.drewN j) = .ok (.int .i64 0) (wr.drewN j) := fun j ty => by have e := (HR.out.drewN j).len HY.out ty; rw [HNY.out] at e; exact e
  go_wp2_with fail
  refine (entry_some HR.out HB.out HKB.out _ _ HLA.out HY.out).mono ?_
  rintro e w' ⟨rfl, rfl⟩
  obtain ⟨m, m2, O1, O2, l2, hmw⟩ := mvW_of HR.out HD.out HB.out HX.out HK.out HKB.out HXD.out HXB.out s ar HL.out HN1.out H40.out
  have HM := Lib.hid hmw
  have q1 := hmw.rdel
  have q2 := hmw.rupd
  have q3 := hmw.c10
  have q4 := hmw.c0
  have q5 : ∀ j, (((wr.drewN j).putObj m O1).drew.putObj m2 O2).cell? ⟨bx, 1, none⟩ = some (.int .i64 1) := fun j => by rw [(HM.out.at_x HX.out HXD.out HXB.out 1 j).1]; show some (Value.int .i64 nx.kind) = _; rw [HKX.out]
  have q6 : ∀ j, (((wr.drewN j).putObj m O1).drew.putObj m2 O2).cell? ⟨bx, 11, none⟩ = some (.int .i64 (nx.parent : Int)) := fun j => (HM.out.at_x HX.out HXD.out HXB.out 11 j).1
  have q7 : ∀ j, (((wr.drewN j).putObj m O1).drew.putObj m2 O2).frozen? ⟨bx, 11, none⟩ = false := fun j => (HM.out.at_x HX.out HXD.out HXB.out 11 j).2
  have c10d : wr.cell? ⟨bd, 10, none⟩ = some (.map (some m)) := by rw [HR.out.c10 HD.out, HM.out.mpd]
  clear hmw
  have hcall := fun j => HLO.out _ l2 HM.out.perm (by have e := HMB.out.trans ((HM.out.fin HX.out HXD.out HXB.out j).1 HKX.out); rw [HBP.out] at e; exact e)
  have HCA := Lib.hid hcall
  clear hcall
  go_wp2
  go_quiet (fail)
  go_wp2
  go_region
  go_wp2_with fail
  refine (HCA.out _).mono ?_
  rintro e w' ⟨rfl, hq⟩
  have HQ := Lib.hid hq
  clear hq
  go_wp2
  go_ret
  exact ⟨rfl, HQ.out⟩
set_option maxRecDepth 100000 in
set_option maxHeartbeats 800000 in
theorem mv_overf {w : World} {t bd bb : Nat} {S : Tab} {nd nb : Nd} (h : Rep w t S) (d b : Int) (hd : S d.toNat = some (bd, nd)) (hb : S b.toNat = some (bb, nb)) (s ar : ByteArray) (hkd : nd.kind = 1) (hkb : nb.kind = 1) {x bx : Nat} {nx : Nd} (hl : look nd.names s = some x) (hx : S x = some (bx, nx)) (hn : nameB ar = true) (hkx : ¬ nx.kind = 1) {y by_ : Nat} {ny : Nd} (hla : look nb.names ar = some y) (hy : S y = some (by_, ny)) (hyx : y ≠ x) (hxd : x ≠ d.toNat) (hxb : x ≠ b.toNat) {nb1 : Nd} (hnb1 : nb1 = (if b.toNat = d.toNat then { nd with names := delL nd.names s } else nb)) (h40 : (delL nb1.names ar).length < 40) (hny : ny.names = []) {Q : World → Prop} (hlo : ∀ (w1 : World) (l2 : List (ByteArray × Nat)), l2.Perm ((ar, x) :: delL nb1.names ar) → Mv w t S w1 (movedS S d.toNat b.toNat x bd nd bb nb1 bx nx s l2) → Calls Try.prog 53 #[.pointer (some ⟨t, 0, none⟩), .pointer (some ⟨by_, 0, none⟩)] w1 fun e w' => e = .returned (.tuple #[]) ∧ Q w') (hky : ¬ ny.kind = 1) :
    Calls Try.prog 24 #[.pointer (some ⟨t, 0, none⟩), .int .i64 d, .string s, .int .i64 b, .string ar] w fun e w' => e = .returned (.int .i64 0) ∧ Q w' := by
  have c1 : w.cell? ⟨bd, 1, none⟩ = some (.int .i64 1) := by rw [h.c1 hd, hkd]
  have e1 : w.cell? ⟨bb, 1, none⟩ = some (.int .i64 1) := by rw [h.c1 hb, hkb]
  have HK := Lib.hid hkd
  have HKB := Lib.hid hkb
  have HL := Lib.hid hl
  have HX := Lib.hid hx
  have d1 := h.c1 hx
  have hkxb : (nx.kind == 1) = false := by simpa using hkx
  have HKX := Lib.hid hkx
  have HLA := Lib.hid hla
  have HY := Lib.hid hy
  have HYX : Hid (by_ ≠ bx) := Lib.hid (fun e => hyx (h.inj _ _ _ _ _ (e ▸ hy) hx))
  have HN1 := Lib.hid hnb1
  have HXD := Lib.hid hxd
  have HXB := Lib.hid hxb
  have H40 := Lib.hid h40
  have HBP : Hid (((b.toNat : Nat) : Int) = b) := Lib.hid (by have := h.rng _ _ hb; omega)
  have HKY := Lib.hid hky
  have HNY := Lib.hid hny
  have HLO := Lib.hid hlo
  have H := Lib.hid h
  have HD := Lib.hid hd
  have HB := Lib.hid hb
  clear h hd hb hkd hkb hl hx hkx hla hy hyx hky hny hlo hxd hxb h40 hnb1
  go_enter Try.func24, Try.ntmps24
  go_wp2_with fail
  refine (pair_ok H.out _ _ HD.out HB.out).mono ?_
  rintro e w' ⟨rfl, rfl⟩
  go_wp2_with fail
  refine (entry_some H.out HD.out HK.out _ _ HL.out HX.out).mono ?_
  rintro e w' ⟨rfl, rfl⟩
  go_wp2_with fail
  refine (name_any _ _).mono ?_
  rintro e w' ⟨rfl, rfl⟩
  have HMB := Lib.hid (Mv.refl H.out)
  have HBL := Lib.hid (Below.refl w.heap.size w)
  have HR := Lib.hid H.out
  have hq := eql_nodes (w := w) (HR.out.node _ by_ ny HY.out) (HR.out.node _ bx nx HX.out) HYX.out
  have g1 := HR.out.c1 HY.out
  have hkyb : (ny.kind == 1) = false := by have := HKY.out; simpa using this
  have g10 := HR.out.c10 HY.out
  have hleny : ∀ j ty, (Builtin.len_ #[84] ty #[.map ny.mp]).run Try.prog (w.drewN j) = .ok (.int .i64 0) (w.drewN j) := fun j ty => by have e := (HR.out.drewN j).len HY.out ty; rw [HNY.out] at e; exact e
  go_wp2_with fail
  refine (entry_some HR.out HB.out HKB.out _ _ HLA.out HY.out).mono ?_
  rintro e w' ⟨rfl, rfl⟩
  obtain ⟨m, m2, O1, O2, l2, hmw⟩ := mvW_of HR.out HD.out HB.out HX.out HK.out HKB.out HXD.out HXB.out s ar HL.out HN1.out H40.out
  have HM := Lib.hid hmw
  have q1 := hmw.rdel
  have q2 := hmw.rupd
  have q3 := hmw.c10
  have q4 := hmw.c0
  have q5 : ∀ j, (((w.drewN j).putObj m O1).drew.putObj m2 O2).cell? ⟨bx, 1, none⟩ = some (.int .i64 nx.kind) := fun j => by rw [(HM.out.at_x HX.out HXD.out HXB.out 1 j).1]; rfl
  have c10d : w.cell? ⟨bd, 10, none⟩ = some (.map (some m)) := by rw [HR.out.c10 HD.out, HM.out.mpd]
  clear hmw
  have hcall := fun j => HLO.out _ l2 HM.out.perm (by have e := HMB.out.trans ((HM.out.fin HX.out HXD.out HXB.out j).2 HKX.out); exact e)
  have HCA := Lib.hid hcall
  clear hcall
  go_wp2
  go_quiet (fail)
  go_wp2
  go_region
  go_wp2_with fail
  refine (HCA.out _).mono ?_
  rintro e w' ⟨rfl, hq⟩
  have HQ := Lib.hid hq
  clear hq
  go_wp2
  go_ret
  exact ⟨rfl, HQ.out⟩
end Go.Proofs.Ytafonmnfeibaiaa
namespace Go.Proofs.Ytafonmnfeibaiaa
open Go.RowKit

/-! ### Move, in plain words -/
theorem delL_len {l : List (ByteArray × Nat)} (h : (l.map (·.1)).Nodup) {s : ByteArray} {x : Nat} (hl : look l s = some x) : (delL l s).length + 1 = l.length := by
  obtain ⟨j, _, hj, hd, _⟩ := findNow_some_of s x ((entVals l).map fun p => ⟨p.1, p.2, 0⟩) l 0 (by simp [entVals]) hl
  have hj' : j < l.length := by simpa [entVals] using hj
  rw [← hd, List.length_eraseIdx, if_pos hj']
  omega
theorem delL_none {l : List (ByteArray × Nat)} {s : ByteArray} (hl : look l s = none) : delL l s = l := by
  simp only [look, Option.map_eq_none_iff, List.find?_eq_none] at hl
  exact List.eraseP_of_forall_not (fun p hp => by simpa using hl p hp)
theorem delL_le (l : List (ByteArray × Nat)) (s : ByteArray) : (delL l s).length ≤ l.length := List.length_eraseP_le
theorem delL_nodup {l : List (ByteArray × Nat)} (h : (l.map (·.1)).Nodup) (s : ByteArray) : ((delL l s).map (·.1)).Nodup :=
  List.Nodup.sublist (List.eraseP_sublist.map _) h
theorem ents_perm {l l' : List (ByteArray × Nat)} (h : l.Perm l') : (ents l).Perm (ents l') := h.map _

section
variable {w : World} {t : Nat} {S : Tab} {T : IT.Tr} (h : Tre w t S T) {d b x bd bb bx : Nat} {nd nb nx : Nd} {n q m : IT.Nd} (hd : S d = some (bd, nd)) (hb : S b = some (bb, nb)) (hx : S x = some (bx, nx)) (hT : T d = some n) (hQ : T b = some q) (hX : T x = some m)
variable {s ar : ByteArray} (hne : x ≠ d) (hxb : x ≠ b) (hf : IT.findN (bs s) n.names = some x) {nb1 : Nd} (hnb1 : nb1 = if b = d then { nd with names := delL nd.names s } else nb)
include h hd hb hx hT hQ hX hne hxb hf hnb1
/-- How the memory ties to the tree without the entry, the loss pending. -/
theorem moved_tie1 : IT.Ties (IT.updK (kpOf S) d (some { kp nd with names := ents (delL nd.names s) })) (IT.delT T d x (bs s) n m) (fun y => IT.calm y + IT.single x y) ∧
    IT.updK (kpOf S) d (some { kp nd with names := ents (delL nd.names s) }) b = some (kp nb1) ∧ IT.updK (kpOf S) d (some { kp nd with names := ents (delL nd.names s) }) x = some (kp nx) := by
  have _ := hQ
  have _ := hxb
  have hrd := (h.snd.1.rng _ n hT).2
  have hrx := (h.snd.1.rng _ m hX).2
  refine ⟨h.ties.delP hT hX hne hrd hrx (h.snd.1.ord _ n hT) hf (kpOf_some hd) (ents (delL nd.names s)) (by rw [ents_del s (h.rep.nodup hd)]; exact List.Perm.refl _), ?_, ?_⟩
  · by_cases e : b = d
    · rw [if_pos e] at hnb1
      subst e
      rw [IT.updK_same, hnb1]; rfl
    · rw [if_neg e] at hnb1
      rw [IT.updK_other _ _ e, hnb1]; exact kpOf_some hb
  · rw [IT.updK_other _ _ hne]; exact kpOf_some hx
theorem kpOf_moved (l2 : List (ByteArray × Nat)) : kpOf (movedS S d b x bd nd bb nb1 bx nx s l2) = IT.updK (IT.updK (IT.updK (kpOf S) d (some { kp nd with names := ents (delL nd.names s) })) x (some { kp nx with parent := if (kp nx).kind = 1 then b else (kp nx).parent })) b (some { kp nb1 with names := ents l2 }) := by
  have _ := h
  have _ := hd
  have _ := hb
  have _ := hx
  have _ := hT
  have _ := hQ
  have _ := hX
  have _ := hne
  have _ := hf
  have _ := hnb1
  unfold movedS
  rw [kpOf_upd, kpOf_upd, kpOf_upd, IT.updK_comm _ (Ne.symm hxb)]
  rfl
/-- To where there was none of that name. -/
theorem moved_none {q1 : IT.Nd} (hq1 : IT.delT T d x (bs s) n m b = some q1) {l2 : List (ByteArray × Nat)} (hl2 : l2.Perm ((ar, x) :: delL nb1.names ar)) (hno : look nb1.names ar = none) :
    IT.Ties (kpOf (movedS S d b x bd nd bb nb1 bx nx s l2)) (IT.entT (IT.delT T d x (bs s) n m) b x (bs ar) q1 (IT.alone x m)) IT.calm := by
  obtain ⟨h1, h2, h3⟩ := moved_tie1 h hd hb hx hT hQ hX hne hxb hf hnb1
  rw [kpOf_moved h hd hb hx hT hQ hX hne hxb hf hnb1]
  refine h1.entP rfl hq1 (IT.del_at_x hne) hxb (h.snd.1.rng _ q hQ).2 (h.snd.1.rng _ m hX).2 h2 h3 (ents l2) ?_
  have e := ents_perm hl2
  rw [delL_none hno] at e
  exact e
/-- Over another one. -/
theorem moved_over {w1 : Nat} {mw q1 : IT.Nd} (hq1 : IT.delT T d x (bs s) n m b = some q1) (hwS : IT.delT T d x (bs s) n m w1 = some mw) (hwb : w1 ≠ b) (hwx : w1 ≠ x) (hw2 : w1 ≤ 200) (ho : IT.Ord q1.names) (hfq : IT.findN (bs ar) q1.names = some w1) {l2 : List (ByteArray × Nat)} (hl2 : l2.Perm ((ar, x) :: delL nb1.names ar)) (hnd : (nb1.names.map (·.1)).Nodup) :
    IT.Ties (kpOf (movedS S d b x bd nd bb nb1 bx nx s l2)) (IT.entT (IT.delT (IT.delT T d x (bs s) n m) b w1 (bs ar) q1 mw) b x (bs ar) { q1 with names := IT.delN (bs ar) q1.names } (IT.alone x m)) (IT.single w1) := by
  obtain ⟨h1, h2, h3⟩ := moved_tie1 h hd hb hx hT hQ hX hne hxb hf hnb1
  have hb2 := (h.snd.1.rng _ q hQ).2
  have hx2 := (h.snd.1.rng _ m hX).2
  have g1 := h1.delP (nm := bs ar) hq1 hwS hwb hb2 hw2 ho hfq h2 (ents (delL nb1.names ar)) (by rw [ents_del ar hnd]; exact List.Perm.refl _)
  rw [kpOf_moved h hd hb hx hT hQ hX hne hxb hf hnb1]
  have e : (fun y => (IT.calm y + IT.single x y) + IT.single w1 y) = fun y => IT.single w1 y + IT.single x y := by
    funext y
    show (0 + IT.single x y) + IT.single w1 y = _
    omega
  rw [e] at g1
  have g2 := g1.entP (d := b) (nm := bs ar) (IT.single_other (Ne.symm hwx)) IT.del_at_d (show IT.delT (IT.delT T d x (bs s) n m) b w1 (bs ar) q1 mw x = some (IT.alone x m) by rw [IT.del_at hxb (Ne.symm hwx)]; exact IT.del_at_x hne) hxb hb2 hx2 (IT.updK_same _ _ _) (by rw [IT.updK_other _ _ hxb]; exact h3) (ents l2) (ents_perm hl2)
  rw [IT.updK_comm _ (Ne.symm hxb), IT.updK_twice] at g2
  exact g2
end

open Classical in
theorem move_any {w : World} {t : Nat} {S : Tab} {T : IT.Tr} (h : Tre w t S T) (d b : Int) (s ar : ByteArray) :
    Calls Try.prog 24 #[.pointer (some ⟨t, 0, none⟩), .int .i64 d, .string s, .int .i64 b, .string ar] w fun e w' => ∃ r, e = .returned (.int .i64 r) ∧ Stp w t S (fun T' => IT.isMove okN T d.toNat (bs s) b.toNat (bs ar) r T') w' := by
  have hstay : ∀ {r : Int} {e : Ending} {w' : World}, IT.isMove okN T d.toNat (bs s) b.toNat (bs ar) r T → e = .returned (.int .i64 r) ∧ w = w' → ∃ r, e = .returned (.int .i64 r) ∧ Stp w t S (fun T' => IT.isMove okN T d.toNat (bs s) b.toNat (bs ar) r T') w' := by
    rintro r e w' hr ⟨rfl, rfl⟩
    exact ⟨r, rfl, Stp.keep h hr⟩
  have hstayB : ∀ {r : Int} {e : Ending} {w' : World}, IT.isMove okN T d.toNat (bs s) b.toNat (bs ar) r T → e = .returned (.int .i64 r) ∧ Below w.heap.size w w' → ∃ r, e = .returned (.int .i64 r) ∧ Stp w t S (fun T' => IT.isMove okN T d.toNat (bs s) b.toNat (bs ar) r T') w' := by
    rintro r e w' hr ⟨rfl, hb⟩
    exact ⟨r, rfl, Stp.keepB h hb hr⟩
  cases hd : S d.toNat with
  | none =>
    refine (mv_no h.rep d b s ar (.inl hd)).mono fun e w' => hstay ?_
    unfold IT.isMove; rw [(h.none_iff _).1 hd]; exact ⟨rfl, rfl⟩
  | some p1 =>
    obtain ⟨bd, nd⟩ := p1
    obtain ⟨n, hT, hkp⟩ := h.get hd
    cases hb : S b.toNat with
    | none =>
      refine (mv_no h.rep d b s ar (.inr hb)).mono fun e w' => hstay ?_
      unfold IT.isMove; rw [hT, (h.none_iff _).1 hb]; exact ⟨rfl, rfl⟩
    | some p2 =>
      obtain ⟨bb, nb⟩ := p2
      obtain ⟨q, hQ, hkq⟩ := h.get hb
      have hkd : nd.kind = n.kind := hkp.kind
      have hkb : nb.kind = q.kind := hkq.kind
      by_cases h1 : n.kind = 1
      case neg =>
        refine (mv_kind1 h.rep d b hd hb s ar (by rw [hkd]; exact h1)).mono fun e w' => hstay ?_
        unfold IT.isMove; rw [hT, hQ]; dsimp only; rw [if_pos (.inl h1)]; exact ⟨rfl, rfl⟩
      by_cases h2 : q.kind = 1
      case neg =>
        refine (mv_kind2 h.rep d b hd hb s ar (by rw [hkd]; exact h1) (by rw [hkb]; exact h2)).mono fun e w' => hstay ?_
        unfold IT.isMove; rw [hT, hQ]; dsimp only; rw [if_pos (.inr h2)]; exact ⟨rfl, rfl⟩
      have hkd1 := hkd.trans h1
      have hkb1 := hkb.trans h2
      have hk12 : ¬ (n.kind ≠ 1 ∨ q.kind ≠ 1) := by rintro (a | a); exact a h1; exact a h2
      have hlo := h.look hd hT s
      cases hl : look nd.names s with
      | none =>
        refine (mv_noent h.rep d b hd hb s ar hkd1 hkb1 hl).mono fun e w' => hstay ?_
        unfold IT.isMove; rw [hT, hQ]; dsimp only; rw [if_neg hk12, ← hlo, hl]; exact ⟨rfl, rfl⟩
      | some x =>
        have hfn : IT.findN (bs s) n.names = some x := by rw [← hlo]; exact hl
        obtain ⟨m, hX⟩ := h.snd.1.lead _ n (bs s, x) hT (IT.find_mem hfn)
        obtain ⟨bx, nx, hx, hkx⟩ := h.back hX
        have hkxx : nx.kind = m.kind := hkx.kind
        have pre : ∀ {r : Int} {T' : IT.Tr}, (if okN (bs ar) = false then r = 1 ∧ T' = T
            else if m.kind = 1 ∧ IT.Bel T x b.toNat then r = 8 ∧ T' = T
            else match IT.findN (bs ar) q.names with
              | none =>
                if d.toNat ≠ b.toNat ∧ q.names.length ≥ 40 then r = 9 ∧ T' = T
                else r = 0 ∧ ∃ q1 m1, IT.delT T d.toNat x (bs s) n m b.toNat = some q1 ∧ IT.delT T d.toNat x (bs s) n m x = some m1 ∧ T' = IT.entT (IT.delT T d.toNat x (bs s) n m) b.toNat x (bs ar) q1 m1
              | some w => if w = x then r = 0 ∧ T' = T
                else ∃ mw, T w = some mw ∧
                  if ¬ (mw.kind = 1 ↔ m.kind = 1) then r = 7 ∧ T' = T
                  else if mw.names ≠ [] then r = 8 ∧ T' = T
                  else r = 0 ∧ ∃ q1 q2 m2, IT.delT T d.toNat x (bs s) n m b.toNat = some q1 ∧ IT.delT (IT.delT T d.toNat x (bs s) n m) b.toNat w (bs ar) q1 mw b.toNat = some q2 ∧ IT.delT (IT.delT T d.toNat x (bs s) n m) b.toNat w (bs ar) q1 mw x = some m2 ∧ IT.NF (IT.entT (IT.delT (IT.delT T d.toNat x (bs s) n m) b.toNat w (bs ar) q1 mw) b.toNat x (bs ar) q2 m2) T') →
            IT.isMove okN T d.toNat (bs s) b.toNat (bs ar) r T' := by
          intro r T' hh
          unfold IT.isMove; rw [hT, hQ]; dsimp only; rw [if_neg hk12, hfn]
          exact ⟨m, hX, hh⟩
        by_cases h3 : nameB ar = true
        case neg =>
          have h3 : nameB ar = false := by simpa using h3
          refine (mv_noname h.rep d b hd hb s ar hkd1 hkb1 hl hx h3).mono fun e w' => hstay (pre ?_)
          rw [if_pos (by rw [← nameB_ok]; exact h3)]; exact ⟨rfl, rfl⟩
        have hok : okN (bs ar) = true := by rw [← nameB_ok]; exact h3
        have hokn : ¬ okN (bs ar) = false := by rw [hok]; intro e; cases e
        by_cases h4 : m.kind = 1 ∧ IT.Bel T x b.toNat
        · have hwi := (within_any h hb hx hQ h2).mono (R' := fun e w' => e = .returned (.bool true) ∧ Below w.heap.size w w') (by
            rintro e w' ⟨r, rfl, hr, hbl⟩
            exact ⟨by rw [hr.2 h4.2], hbl⟩)
          refine (mv_in h.rep d b hd hb s ar hkd1 hkb1 hl hx h3 (hkxx.trans h4.1) hwi).mono fun e w' => hstayB (pre ?_)
          rw [if_neg hokn, if_pos h4]; exact ⟨rfl, rfl⟩
        have hwi : m.kind = 1 → Calls Try.prog 51 #[.pointer (some ⟨t, 0, none⟩), .pointer (some ⟨bb, 0, none⟩), .pointer (some ⟨bx, 0, none⟩)] w fun e w' => e = .returned (.bool false) ∧ Below w.heap.size w w' := fun hmk =>
          (within_any h hb hx hQ h2).mono (by
            rintro e w' ⟨r, rfl, hr, hbl⟩
            cases r with
            | true => exact absurd ⟨hmk, hr.1 rfl⟩ h4
            | false => exact ⟨rfl, hbl⟩)
        have hlq := h.look hb hQ ar
        obtain ⟨hne, hxb, hx1⟩ := IT.move_ne h.snd hT hQ h1 h2 hfn hX hok h4
        cases hla : look nb.names ar with
        | none =>
          have hfa : IT.findN (bs ar) q.names = none := by rw [← hlq]; exact hla
          have hlen := names_nil hkq.names
          by_cases h5 : d.toNat ≠ b.toNat ∧ q.names.length ≥ 40
          · have fin := pre (r := 9) (T' := T) (by rw [if_neg hokn, if_neg h4, hfa]; dsimp only; rw [if_pos h5]; exact ⟨rfl, rfl⟩)
            by_cases hk : m.kind = 1
            · exact (mv_fulld h.rep d b hd hb s ar hkd1 hkb1 hl hx h3 (hkxx.trans hk) (hwi hk) hla h5.1 (by omega)).mono fun e w' => hstayB fin
            · exact (mv_fullf h.rep d b hd hb s ar hkd1 hkb1 hl hx h3 (by rw [hkxx]; exact hk) hla h5.1 (by omega)).mono fun e w' => hstayB fin
          · obtain ⟨q1, hq1, _, _⟩ := IT.move_q h.snd hT hQ h1 h2 hfn hX hok h4
            obtain ⟨nb1, hnb1⟩ : ∃ nb1 : Nd, nb1 = if b.toNat = d.toNat then { nd with names := delL nd.names s } else nb := ⟨_, rfl⟩
            have hnd1 : (nd.names.map (·.1)).Nodup := h.rep.nodup hd
            have hno : look nb1.names ar = none ∧ nb1.names.length < 40 := by
              by_cases e : b.toNat = d.toNat
              · rw [if_pos e] at hnb1
                rw [e, hd] at hb
                obtain ⟨_, rfl⟩ := Prod.mk.inj (Option.some.inj hb)
                rw [hnb1]
                show look (delL nd.names s) ar = none ∧ (delL nd.names s).length < 40
                have h40 := (h.rep.small _ _ _ hd).2
                refine ⟨?_, by have := delL_len hnd1 hl; omega⟩
                simp only [look, Option.map_eq_none_iff, List.find?_eq_none] at hla ⊢
                exact fun p hp => hla p (List.eraseP_sublist.subset hp)
              · rw [if_neg e] at hnb1
                rw [hnb1]
                exact ⟨hla, by have : ¬ q.names.length ≥ 40 := fun a => h5 ⟨fun e2 => e e2.symm, a⟩; omega⟩
            have h40 : (delL nb1.names ar).length < 40 := by rw [delL_none hno.1]; exact hno.2
            have fin : ∀ {e : Ending} {w' : World}, (e = .returned (.int .i64 0) ∧ ∃ l2 : List (ByteArray × Nat), l2.Perm ((ar, x) :: delL nb1.names ar) ∧ Mv w t S w' (movedS S d.toNat b.toNat x bd nd bb nb1 bx nx s l2)) → ∃ r, e = .returned (.int .i64 r) ∧ Stp w t S (fun T' => IT.isMove okN T d.toNat (bs s) b.toNat (bs ar) r T') w' := by
              rintro e w' ⟨rfl, l2, hl2, hmv⟩
              refine ⟨0, rfl, _, _, hmv, moved_none h hd hb hx hT hQ hX hne hxb hfn hnb1 hq1 hl2 hno.1, pre ?_⟩
              rw [if_neg hokn, if_neg h4, hfa]; dsimp only; rw [if_neg h5]
              exact ⟨rfl, q1, IT.alone x m, hq1, IT.del_at_x hne, rfl⟩
            by_cases hdb : d.toNat = b.toNat
            · by_cases hk : m.kind = 1
              · exact (mv_oksd h.rep d b hd hb s ar hkd1 hkb1 hl hx h3 (hkxx.trans hk) (hwi hk) hla hdb hne hxb hnb1 h40).mono fun e w' => fin
              · exact (mv_oksf h.rep d b hd hb s ar hkd1 hkb1 hl hx h3 (by rw [hkxx]; exact hk) hla hdb hne hxb hnb1 h40).mono fun e w' => fin
            · have hfu : nb.names.length < 40 := by
                have : ¬ q.names.length ≥ 40 := fun a => h5 ⟨hdb, a⟩
                omega
              by_cases hk : m.kind = 1
              · exact (mv_oknd h.rep d b hd hb s ar hkd1 hkb1 hl hx h3 (hkxx.trans hk) (hwi hk) hla hdb hfu hne hxb hnb1 h40).mono fun e w' => fin
              · exact (mv_oknf h.rep d b hd hb s ar hkd1 hkb1 hl hx h3 (by rw [hkxx]; exact hk) hla hdb hfu hne hxb hnb1 h40).mono fun e w' => fin
        | some y =>
          have hfa : IT.findN (bs ar) q.names = some y := by rw [← hlq]; exact hla
          by_cases hyx : y = x
          · subst hyx
            have fin := pre (r := 0) (T' := T) (by rw [if_neg hokn, if_neg h4, hfa]; dsimp only; rw [if_pos rfl]; exact ⟨rfl, rfl⟩)
            by_cases hk : m.kind = 1
            · exact (mv_samed h.rep d b hd hb s ar hkd1 hkb1 hl hx h3 (hkxx.trans hk) (hwi hk) hla).mono fun e w' => hstayB fin
            · exact (mv_samef h.rep d b hd hb s ar hkd1 hkb1 hl hx h3 (by rw [hkxx]; exact hk) hla).mono fun e w' => hstayB fin
          · obtain ⟨my, hY⟩ := h.snd.1.lead _ q (bs ar, y) hQ (IT.find_mem hfa)
            obtain ⟨by_, ny, hy, hky⟩ := h.back hY
            have hkyy : ny.kind = my.kind := hky.kind
            have hleny := names_nil hky.names
            have pre2 : ∀ {r : Int} {T' : IT.Tr}, (if ¬ (my.kind = 1 ↔ m.kind = 1) then r = 7 ∧ T' = T
                  else if my.names ≠ [] then r = 8 ∧ T' = T
                  else r = 0 ∧ ∃ q1 q2 m2, IT.delT T d.toNat x (bs s) n m b.toNat = some q1 ∧ IT.delT (IT.delT T d.toNat x (bs s) n m) b.toNat y (bs ar) q1 my b.toNat = some q2 ∧ IT.delT (IT.delT T d.toNat x (bs s) n m) b.toNat y (bs ar) q1 my x = some m2 ∧ IT.NF (IT.entT (IT.delT (IT.delT T d.toNat x (bs s) n m) b.toNat y (bs ar) q1 my) b.toNat x (bs ar) q2 m2) T') →
                IT.isMove okN T d.toNat (bs s) b.toNat (bs ar) r T' := by
              intro r T' hh
              refine pre ?_
              rw [if_neg hokn, if_neg h4, hfa]; dsimp only; rw [if_neg hyx]
              exact ⟨my, hY, hh⟩
            by_cases hkk : my.kind = 1 ↔ m.kind = 1
            case neg =>
              have fin := pre2 (r := 7) (T' := T) (by rw [if_pos hkk]; exact ⟨rfl, rfl⟩)
              by_cases hk : m.kind = 1
              · exact (mv_kindsd h.rep d b hd hb s ar hkd1 hkb1 hl hx h3 (hkxx.trans hk) (hwi hk) hla hy hyx (by rw [hkyy]; exact fun a => hkk ⟨fun _ => hk, fun _ => a⟩)).mono fun e w' => hstayB fin
              · exact (mv_kindsf h.rep d b hd hb s ar hkd1 hkb1 hl hx h3 (by rw [hkxx]; exact hk) hla hy hyx (by
                  rw [hkyy]
                  exact Decidable.byContradiction fun a => hkk ⟨fun c => absurd c a, fun c => absurd c hk⟩)).mono fun e w' => hstayB fin
            by_cases hemp : my.names = []
            case neg =>
              have fin := pre2 (r := 8) (T' := T) (by rw [if_neg (fun a => a hkk), if_pos hemp]; exact ⟨rfl, rfl⟩)
              have hpos : 0 < ny.names.length := by
                rw [hleny]
                cases hmn : my.names with
                | nil => exact absurd hmn hemp
                | cons => simp
              by_cases hk : m.kind = 1
              · exact (mv_busyd h.rep d b hd hb s ar hkd1 hkb1 hl hx h3 (hkxx.trans hk) (hwi hk) hla hy hyx hpos (hkyy.trans (hkk.2 hk))).mono fun e w' => hstayB fin
              · exact (mv_busyf h.rep d b hd hb s ar hkd1 hkb1 hl hx h3 (by rw [hkxx]; exact hk) hla hy hyx hpos (by rw [hkyy]; exact fun a => hk (hkk.1 a))).mono fun e w' => hstayB fin
            have hnye : ny.names = [] := List.eq_nil_of_length_eq_zero (by rw [hleny, hemp]; rfl)
            obtain ⟨q1, hq1, hq1k, hq1e, hfq, hyb, hyd, hY1, s1, s3, hcan, hlnk⟩ := IT.move_over h.snd hT hQ h1 h2 hfn hX hok h4 hfa hyx hY hemp
            obtain ⟨nb1, hnb1⟩ : ∃ nb1 : Nd, nb1 = if b.toNat = d.toNat then { nd with names := delL nd.names s } else nb := ⟨_, rfl⟩
            have hnd1 : (nb1.names.map (·.1)).Nodup := by
              by_cases e : b.toNat = d.toNat
              · rw [if_pos e] at hnb1; rw [hnb1]; exact delL_nodup (h.rep.nodup hd) s
              · rw [if_neg e] at hnb1; rw [hnb1]; exact h.rep.nodup hb
            have hpq : (ents nb1.names).Perm q1.names := by
              by_cases e : b.toNat = d.toNat
              · rw [if_pos e] at hnb1 hq1e
                rw [hnb1, hq1e]
                show (ents (delL nd.names s)).Perm (IT.delN (bs s) n.names)
                rw [ents_del s (h.rep.nodup hd)]
                exact IT.perm_del hkp.names _
              · rw [if_neg e] at hnb1 hq1e
                rw [hnb1, hq1e]; exact hkq.names
            have hlk1 : look nb1.names ar = some y := by rw [← look_find, IT.perm_find (s1.ord _ q1 hq1) hpq]; exact hfq
            have h40 : (delL nb1.names ar).length < 40 := by
              have e1 := delL_len hnd1 hlk1
              have e2 : nb1.names.length ≤ 40 := by
                by_cases e : b.toNat = d.toNat
                · rw [if_pos e] at hnb1; rw [hnb1]
                  have := (h.rep.small _ _ _ hd).2
                  have := delL_le nd.names s
                  show (delL nd.names s).length ≤ 40
                  omega
                · rw [if_neg e] at hnb1; rw [hnb1]; exact (h.rep.small _ _ _ hb).2
              omega
            have hlo1 : ∀ (w1 : World) (l2 : List (ByteArray × Nat)), l2.Perm ((ar, x) :: delL nb1.names ar) → Mv w t S w1 (movedS S d.toNat b.toNat x bd nd bb nb1 bx nx s l2) → Calls Try.prog 53 #[.pointer (some ⟨t, 0, none⟩), .pointer (some ⟨by_, 0, none⟩)] w1 fun e w' => e = .returned (.tuple #[]) ∧ Stp w t S (fun T' => IT.NF (IT.entT (IT.delT (IT.delT T d.toNat x (bs s) n m) b.toNat y (bs ar) q1 my) b.toNat x (bs ar) { q1 with names := IT.delN (bs ar) q1.names } (IT.alone x m)) T') w' := by
              intro w1 l2 hl2 hmv
              refine loses_one hmv s3 (moved_over h hd hb hx hT hQ hX hne hxb hfn hnb1 hq1 hY1 hyb hyx (h.snd.1.rng _ my hY).2 (s1.ord _ q1 hq1) hfq hl2 hnd1) (fun y' => by rw [hlnk]; exact h.snd.1.many y') hcan (n := ny) ?_
              unfold movedS
              rw [upd_other _ _ hyx, upd_other _ _ hyb, upd_other _ _ hyd]
              exact hy
            have fin : ∀ {e : Ending} {w' : World}, (e = .returned (.int .i64 0) ∧ Stp w t S (fun T' => IT.NF (IT.entT (IT.delT (IT.delT T d.toNat x (bs s) n m) b.toNat y (bs ar) q1 my) b.toNat x (bs ar) { q1 with names := IT.delN (bs ar) q1.names } (IT.alone x m)) T') w') → ∃ r, e = .returned (.int .i64 r) ∧ Stp w t S (fun T' => IT.isMove okN T d.toNat (bs s) b.toNat (bs ar) r T') w' := by
              rintro e w' ⟨rfl, S', T', g1, g2, g3⟩
              refine ⟨0, rfl, S', T', g1, g2, pre2 ?_⟩
              rw [if_neg (fun a => a hkk), if_neg (fun a => a hemp)]
              exact ⟨rfl, q1, _, IT.alone x m, hq1, IT.del_at_d, by rw [IT.del_at hxb (Ne.symm hyx)]; exact IT.del_at_x hne, g3⟩
            by_cases hk : m.kind = 1
            · exact (mv_overd h.rep d b hd hb s ar hkd1 hkb1 hl hx h3 (hkxx.trans hk) (hwi hk) hla hy hyx hne hxb hnb1 h40 hnye hlo1 (hkyy.trans (hkk.2 hk))).mono fun e w' => fin
            · exact (mv_overf h.rep d b hd hb s ar hkd1 hkb1 hl hx h3 (by rw [hkxx]; exact hk) hla hy hyx hne hxb hnb1 h40 hnye hlo1 (by rw [hkyy]; exact fun a => hk (hkk.1 a))).mono fun e w' => fin
end Go.Proofs.Ytafonmnfeibaiaa
namespace Go.Proofs.Ytafonmnfeibaiaa
open Go.RowKit Go.Maps Go.Sort Go.Shelf

/-! ### Names -/
/-- Every element reads as nothing: of the map's keys alone is spoken. -/
def anyR (_ : Value) : Option (DataW Unit × List MemPlace) := some (.nil, [])
theorem keys_list : ∀ (L : List MapEntry) (l : List (ByteArray × Nat)), L.map (fun e => (e.key, e.val)) = entVals l → (∀ p ∈ l, p.1.size ≤ maxLen) →
    L.map (fun e => strOf (WideElems.rg Try.prog 9 anyR e).1) = l.map fun p => bs p.1
  | [], [], _, _ => rfl
  | [], _ :: _, h, _ => by simp [entVals] at h
  | _ :: _, [], h, _ => by simp [entVals] at h
  | e :: L, p :: l, h, hs => by
    simp only [entVals, List.map_cons, List.cons.injEq, Prod.mk.injEq] at h
    have ih := keys_list L l h.2 fun q hq => hs q (List.mem_cons_of_mem _ hq)
    have hk : WideElems.rg Try.prog 9 anyR e = (.string p.1.data.toList, .nil) := by
      refine WideElems.rg_of ?_
      unfold WideElems.rd
      rw [h.1.1]
      simp [keyOf, mapKey, Try.underlying9, anyR, hs p (by simp)]
    rw [List.map_cons, List.map_cons, ih, hk]; rfl
theorem strKeys_map (es : List (Lit × DataW Unit)) : strKeys (DataW.map es) = es.map fun p => strOf p.1 := rfl
theorem strKeys_list (L : List MapEntry) (l : List (ByteArray × Nat)) (h : L.map (fun e => (e.key, e.val)) = entVals l) (hs : ∀ p ∈ l, p.1.size ≤ maxLen) :
    (strKeys (DataW.map ((L.map (WideElems.rg Try.prog 9 anyR)).foldr DataW.insert []))).Perm (l.map fun p => bs p.1) := by
  have e := (WideShapes.sorted_perm (L.map (WideElems.rg Try.prog 9 anyR))).map fun p => strOf p.1
  rw [List.map_map] at e
  have e2 := keys_list L l h hs
  rw [strKeys_map, ← e2]
  generalize WideElems.rg Try.prog 9 anyR = g at e ⊢
  exact e
theorem MapIs.owns {w : World} {m : Nat} {l : List (ByteArray × Nat)} (h : MapIs w m l) (hs : ∀ p ∈ l, p.1.size ≤ maxLen) (hl : l.length ≤ 40) :
    ∃ D0 : DataW Unit, w.ownsMap Try.prog 9 anyR m 40 D0 ∧ (strKeys D0).Perm (l.map fun p => bs p.1) ∧ Maps.size D0 ≤ 40 := by
  obtain ⟨es, clock, h1, h2⟩ := h
  have hlen : es.size = l.length := by have := congrArg List.length h2.vals; simpa [entVals] using this
  refine ⟨_, ⟨es, clock, h1, ⟨?_, (MapKept.stamped_iff es clock).2 ⟨h2.born, h2.apart, ?_⟩, fun x hx => ?_⟩, by omega, rfl⟩, ?_, ?_⟩
  · have : (40 : Nat) ≤ maxLen := by decide
    omega
  · have e1 : es.toList.map (·.key) = l.map fun p => Value.string p.1 := by
      have := congrArg (List.map (·.1)) h2.vals
      unfold entVals at this
      rw [List.map_map, List.map_map] at this
      exact this
    have e2 : (es.toList.map (·.key)).Pairwise (· ≠ ·) := by
      rw [e1, List.pairwise_map]
      have e3 := List.pairwise_map.1 h2.keys
      exact e3.imp fun hne e => hne (Value.string.inj e)
    exact List.pairwise_map.1 e2
  · have hm : (x.key, x.val) ∈ entVals l := by rw [← h2.vals]; exact List.mem_map.2 ⟨x, hx, rfl⟩
    obtain ⟨p, hp, e⟩ := entVals_mem hm
    obtain ⟨e1, _⟩ := Prod.mk.inj e
    refine ⟨(.string p.1.data.toList, .nil), ?_⟩
    unfold WideElems.rd
    rw [e1]
    simp [keyOf, mapKey, Try.underlying9, anyR, hs p hp]
  · exact strKeys_list es.toList l h2.vals hs
  · show ((es.toList.map (WideElems.rg Try.prog 9 anyR)).foldr DataW.insert []).length ≤ 40
    have e := length_sorted (es.toList.map (WideElems.rg Try.prog 9 anyR))
    rw [List.length_map, Array.length_toList] at e
    exact Nat.le_trans (Nat.le_of_eq (e.trans hlen)) hl
def namesT (T : IT.Tr) (k : Nat) : List IT.Bytes := match T k with
  | none => []
  | some m => m.names.map (·.1)
theorem ord_sorted {l : List (IT.Bytes × Nat)} (h : IT.Ord l) {ss : List (List UInt8)} (hp : ss.Perm (l.map (·.1))) : ss.mergeSort (fun x y => decide (x ≤ y)) = l.map (·.1) := by
  rw [mergeSort_of_perm hp]
  refine List.mergeSort_of_pairwise ?_
  rw [List.pairwise_map]
  exact h.imp fun hlt => by simpa using List.le_of_lt hlt
set_option maxHeartbeats 1000000 in
theorem names_map {w : World} {t b mb : Nat} {S : Tab} {n : Nd} (h : Rep w t S) (ki : Int) (hk : S ki.toNat = some (b, n)) (hm : n.mp = some mb) (D0 : DataW Unit) (hown : w.ownsMap Try.prog 9 anyR mb 40 D0) (hsz : Maps.size D0 ≤ 40) :
    Calls Try.prog 27 #[.pointer (some ⟨t, 0, none⟩), .int .i64 ki] w fun e w' => ∃ (v : Value) (ss : List (List UInt8)), e = .returned v ∧ ss.Perm (strKeys D0) ∧
      w'.ownsRow w.heap.size 9 1 v ss.length ((ss.mergeSort (fun x y => decide (x ≤ y))).map encStr) ∧ (v = .slice none 0 0 ↔ ss = []) ∧ Below w.heap.size w w' := by
  have c10 : w.cell? ⟨b, 10, none⟩ = some (.map (some mb)) := by rw [h.cellN hk 10]; show some (Value.map n.mp) = _; rw [hm]
  have hmax : Maps.size D0 ≤ maxLen := Nat.le_trans hsz (by decide)
  have hbytes : Maps.size D0 * 16 ≤ 140737488355328 := by omega
  have H := Lib.hid h
  have HK := Lib.hid hk
  clear h hk hm hsz
  refine (callsIn_wide (n := 6)).1 ?_
  have hfA : Fence.wide.fn 41 := trivial
  have hfK : Fence.wide.fn 55 := trivial
  have hfS : Fence.wide.fn 54 := trivial
  refine callsIn_of_wp Try.func27 rfl trivial ?_ rfl
  simp only [Try.ntmps27, List.size_toArray, List.length_cons, List.length_nil, Nat.reduceAdd, Nat.reduceSub, Array.replicate_succ, Array.replicate_zero, List.push_toArray, List.append_toArray, List.nil_append, List.cons_append]
  gi_wp2_with (first
    | (gi_at_call 41; refine (callsIn_wide.2 (H.out.at_some _ HK.out)).mono ?_; rintro e w' ⟨rfl, rfl⟩)
    | (gi_at_call 55; refine (Try.maps_Keys_55 _ _).mono ?_; rintro e w' ⟨rfl, rfl⟩)
    | (gi_at_call 54; refine (Try.slices_Sorted_keys_54_55 mb 40 D0 anyR w hown hmax hbytes).mono ?_; rintro e w' ⟨v, ss, rfl, hS, hrow, hnil, hb⟩))
  go_ret
  exact ⟨v, ss, rfl, hS, ownsRow_base_a hrow (by simp), hnil, ((Below.refl _ w).alloc (Nat.le_refl _) _).trans (hb.mono (by simp))⟩
set_option maxHeartbeats 1000000 in
theorem names_nomap {w : World} {t b : Nat} {S : Tab} {n : Nd} (h : Rep w t S) (ki : Int) (hk : S ki.toNat = some (b, n)) (hm : n.mp = none) :
    Calls Try.prog 27 #[.pointer (some ⟨t, 0, none⟩), .int .i64 ki] w fun e w' => e = .returned (.slice none 0 0) ∧ Below w.heap.size w w' := by
  have c10 : w.cell? ⟨b, 10, none⟩ = some (.map none) := by rw [h.cellN hk 10]; show some (Value.map n.mp) = _; rw [hm]
  have H := Lib.hid h
  have HK := Lib.hid hk
  clear h hk hm
  refine (callsIn_wide (n := 6)).1 ?_
  have hfA : Fence.wide.fn 41 := trivial
  have hfK : Fence.wide.fn 55 := trivial
  have hfS : Fence.wide.fn 54 := trivial
  refine callsIn_of_wp Try.func27 rfl trivial ?_ rfl
  simp only [Try.ntmps27, List.size_toArray, List.length_cons, List.length_nil, Nat.reduceAdd, Nat.reduceSub, Array.replicate_succ, Array.replicate_zero, List.push_toArray, List.append_toArray, List.nil_append, List.cons_append]
  gi_wp2_with (first
    | (gi_at_call 41; refine (callsIn_wide.2 (H.out.at_some _ HK.out)).mono ?_; rintro e w' ⟨rfl, rfl⟩)
    | (gi_at_call 55; refine (Try.maps_Keys_55 _ _).mono ?_; rintro e w' ⟨rfl, rfl⟩)
    | (gi_at_call 54; refine (Try.slices_Sorted_keys_nil_54_55 w).mono ?_; rintro e w' ⟨v, ss, rfl, hS, hrow, hnil, hb⟩))
  go_ret
  exact ⟨by rw [hnil.2 hS]; rfl, ((Below.refl _ w).alloc (Nat.le_refl _) _).trans (hb.mono (by simp))⟩
set_option maxHeartbeats 400000 in
theorem names_none {w : World} {t : Nat} {S : Tab} (h : Rep w t S) (ki : Int) (hk : S ki.toNat = none) :
    Calls Try.prog 27 #[.pointer (some ⟨t, 0, none⟩), .int .i64 ki] w fun e w' => e = .returned (.slice none 0 0) ∧ w = w' := by
  have H := Lib.hid h
  have HK := Lib.hid hk
  clear h hk
  go_enter Try.func27, Try.ntmps27
  go_wp2_with fail
  refine (H.out.at_none _ HK.out).mono ?_
  rintro e w' ⟨rfl, rfl⟩
  go_wp2
  go_ret
  exact ⟨rfl, rfl⟩
theorem okN_len {l : IT.Bytes} (h : okN l = true) : l.length ≤ 14 := (of_decide_eq_true h).2.1
theorem names_any {w : World} {t : Nat} {S : Tab} {T : IT.Tr} (h : Tre w t S T) (ki : Int) :
    Calls Try.prog 27 #[.pointer (some ⟨t, 0, none⟩), .int .i64 ki] w fun e w' => ∃ v, e = .returned v ∧ w'.ownsRow w.heap.size 9 1 v (namesT T ki.toNat).length ((namesT T ki.toNat).map encStr) ∧ (v = .slice none 0 0 ↔ namesT T ki.toNat = []) ∧ Below w.heap.size w w' := by
  have hnil : ∀ (W : World) (b : Nat), W.ownsRow b 9 1 (.slice none 0 0) 0 [] := fun W b => W.ownsRow_nil b 9 1
  unfold namesT
  cases hk : S ki.toNat with
  | none =>
    rw [(h.none_iff _).1 hk]
    refine (names_none h.rep ki hk).mono ?_
    rintro e w' ⟨rfl, rfl⟩
    exact ⟨_, rfl, hnil _ _, by simp, Below.refl _ _⟩
  | some q =>
    obtain ⟨b, n⟩ := q
    obtain ⟨m, hT, hkp⟩ := h.get hk
    rw [hT]
    have hp : (ents n.names).Perm m.names := hkp.names
    cases hm : n.mp with
    | none =>
      have hn := h.rep.nomap _ b n hk hm
      have hmn : m.names = [] := by rw [hn] at hp; exact (List.Perm.nil_eq hp).symm
      refine (names_nomap h.rep ki hk hm).mono ?_
      rintro e w' ⟨rfl, hb⟩
      dsimp only
      rw [hmn]
      exact ⟨_, rfl, hnil _ _, by simp, hb⟩
    | some mb =>
      have hs : ∀ p ∈ n.names, p.1.size ≤ maxLen := fun p hpm => by
        have h1 := h.snd.1.okn _ m (bs p.1, p.2) hT (hp.mem_iff.1 (List.mem_map.2 ⟨p, hpm, rfl⟩))
        have h2 := okN_len h1
        rw [bs_len] at h2
        exact Nat.le_trans h2 (by decide)
      obtain ⟨D0, hown, hpk, hsz⟩ := (h.rep.map _ b n mb hk hm).owns hs (h.rep.small _ b n hk).2
      refine (names_map h.rep ki hk hm D0 hown hsz).mono ?_
      rintro e w' ⟨v, ss, rfl, hS, hrow, hv, hb⟩
      have hss : ss.Perm (m.names.map (·.1)) := by
        refine (hS.trans hpk).trans ?_
        have := hp.map (·.1)
        unfold ents at this
        rw [List.map_map] at this
        exact this
      have hlen : ss.length = (m.names.map (·.1)).length := hss.length_eq
      rw [ord_sorted (h.snd.1.ord _ m hT) hss, hlen] at hrow
      refine ⟨v, rfl, hrow, ?_, hb⟩
      rw [hv]
      constructor
      · intro e; rw [e] at hss; exact (List.Perm.nil_eq hss).symm
      · intro e
        dsimp only at e
        rw [e] at hss; exact hss.eq_nil
end Go.Proofs.Ytafonmnfeibaiaa
/- Paths as lists of bytes: what stands between the strokes. No program in sight. -/
namespace Go.Proofs.Ytafonmnfeibaiaa.Pp

abbrev Bytes := List UInt8

def partsA : Bytes → Bytes → List Bytes
  | [], acc => if acc = [] then [] else [acc.reverse]
  | c :: l, acc => if c = 47 then (if acc = [] then partsA l [] else acc.reverse :: partsA l []) else partsA l (c :: acc)
/-- What stands between the strokes. -/
def parts (l : Bytes) : List Bytes := partsA l []

theorem partsA_run : ∀ (a r acc : Bytes), (47 : UInt8) ∉ a → partsA (a ++ r) acc = partsA r (a.reverse ++ acc)
  | [], _, _, _ => rfl
  | c :: a, r, acc, h => by
    have hc : c ≠ 47 := fun e => h (by simp [e])
    have ha : (47 : UInt8) ∉ a := fun e => h (by simp [e])
    simp only [List.cons_append, partsA, hc, if_false]
    rw [partsA_run a r (c :: acc) ha]
    simp
theorem parts_cut (a b : Bytes) (h : (47 : UInt8) ∉ a) : parts (a ++ 47 :: b) = (if a = [] then [] else [a]) ++ parts b := by
  unfold parts
  rw [partsA_run a _ [] h]
  by_cases e : a = [] <;> simp [partsA, e]
theorem parts_end (a : Bytes) (h : (47 : UInt8) ∉ a) : parts a = if a = [] then [] else [a] := by
  have := partsA_run a [] [] h
  rw [List.append_nil] at this
  unfold parts
  rw [this]
  by_cases e : a = [] <;> simp [partsA, e]
theorem parts_nil : parts [] = [] := rfl

/-- The index of a stroke cuts a text. -/
theorem stroke_at {l : Bytes} {i : Nat} (h : Lib.indexByte l 47 = i) : i < l.length ∧ (47 : UInt8) ∉ l.take i ∧ l = l.take i ++ 47 :: l.drop (i + 1) := by
  obtain ⟨h1, h2⟩ := Lib.indexByte_some h
  obtain ⟨hi, h3⟩ := List.getElem?_eq_some_iff.1 h1
  refine ⟨hi, fun hm => ?_, ?_⟩
  · obtain ⟨k, hk, he⟩ := List.getElem_of_mem hm
    rw [List.getElem_take] at he
    have hk' : k < i := by simp at hk; omega
    exact h2 k hk' (by rw [List.getElem?_eq_getElem (by omega), he])
  · conv => lhs; rw [← List.take_append_drop i l]
    rw [List.drop_eq_getElem_cons hi, h3]
theorem no_stroke {l : Bytes} (h : Lib.indexByte l 47 = -1) : (47 : UInt8) ∉ l := fun hm => by
  obtain ⟨k, hk, he⟩ := List.getElem_of_mem hm
  exact Lib.indexByte_none h k (by rw [List.getElem?_eq_getElem hk, he])

theorem ex_data (s : ByteArray) (a b : Nat) : (s.extract a b).data.toList = (s.data.toList.take b).drop a := by
  rw [ByteArray.data_extract, Array.toList_extract, List.extract_eq_take_drop, List.drop_take]
theorem sz (s : ByteArray) : s.data.toList.length = s.size := by simp
end Go.Proofs.Ytafonmnfeibaiaa.Pp
namespace Go.Proofs.Ytafonmnfeibaiaa.Pp
/-! ### Directory and last name -/
def IsTrim (s : ByteArray) (n : Nat) : Prop := n ≤ s.size ∧ (∀ j, n ≤ j → j < s.size → s.data[j]! = 47) ∧ (n = 0 ∨ s.data[n - 1]! ≠ 47)
def IsCut (s : ByteArray) (n i : Nat) : Prop := i ≤ n ∧ (∀ j, i ≤ j → j < n → s.data[j]! ≠ 47) ∧ (i = 0 ∨ s.data[i - 1]! = 47)
def bA (s : ByteArray) (n i : Nat) : ByteArray := if n = 0 then s else s.extract 0 i
def bB (s : ByteArray) (n i : Nat) : ByteArray := if n = 0 then ⟨#[]⟩ else s.extract i n

theorem trim_is (s : ByteArray) : ∃ n, IsTrim s n := by
  have h : ∀ k, k ≤ s.size → (∀ j, k ≤ j → j < s.size → s.data[j]! = 47) → ∃ n, IsTrim s n := by
    intro k
    induction k with
    | zero => exact fun h0 h1 => ⟨0, h0, h1, .inl rfl⟩
    | succ k ih =>
      intro h0 h1
      by_cases hc : s.data[k]! = 47
      · refine ih (by omega) (fun j hj hj2 => ?_)
        by_cases e : j = k
        · rw [e]; exact hc
        · exact h1 j (by omega) hj2
      · exact ⟨k + 1, h0, h1, .inr (by simpa using hc)⟩
  exact h s.size (Nat.le_refl _) (fun j h1 h2 => by omega)
theorem cut_is (s : ByteArray) (n : Nat) : ∃ i, IsCut s n i := by
  have h : ∀ k, k ≤ n → (∀ j, k ≤ j → j < n → s.data[j]! ≠ 47) → ∃ i, IsCut s n i := by
    intro k
    induction k with
    | zero => exact fun h0 h1 => ⟨0, h0, h1, .inl rfl⟩
    | succ k ih =>
      intro h0 h1
      by_cases hc : s.data[k]! = 47
      · exact ⟨k + 1, h0, h1, .inr (by simpa using hc)⟩
      · refine ih (by omega) (fun j hj hj2 => ?_)
        by_cases e : j = k
        · rw [e]; exact hc
        · exact h1 j (by omega) hj2
  exact h n (Nat.le_refl _) (fun j h1 h2 => by omega)

theorem data_get (s : ByteArray) (j : Nat) (h : j < s.size) : s.data[j]! = s[j] := by
  have h1 : j < s.data.size := h
  rw [getElem!_pos s.data j h1]; rfl
theorem toList_get (s : ByteArray) (j : Nat) (h : j < s.data.toList.length) : s.data.toList[j] = s.data[j]! := by
  have h1 : j < s.data.size := by simpa using h
  rw [getElem!_pos s.data j h1]; simp
theorem dropWhile_rev (p : UInt8 → Bool) : ∀ (n : Nat) (l : List UInt8), n ≤ l.length → (∀ j (h : j < l.length), n ≤ j → p l[j] = true) → (n = 0 ∨ ∃ h : n - 1 < l.length, p l[n - 1] = false) → (l.reverse.dropWhile p).reverse = l.take n := by
  intro n l hn h1 h2
  have hd : l = l.take n ++ l.drop n := (List.take_append_drop n l).symm
  have hall : ∀ x ∈ (l.drop n).reverse, p x = true := by
    intro x hx
    obtain ⟨k, hk, he⟩ := List.getElem_of_mem (List.mem_reverse.1 hx)
    rw [List.getElem_drop] at he
    rw [← he]; exact h1 _ _ (by omega)
  have hrev : l.reverse = (l.drop n).reverse ++ (l.take n).reverse := by
    conv => lhs; rw [hd]
    rw [List.reverse_append]
  rw [hrev, List.dropWhile_append_of_pos hall]
  rcases h2 with h0 | ⟨hb, hp⟩
  · subst h0; simp
  · by_cases h0 : n = 0
    · subst h0; simp
    have ht : (l.take n).reverse = l[n - 1] :: (l.take (n - 1)).reverse := by
      obtain ⟨m, rfl⟩ : ∃ m, n = m + 1 := ⟨n - 1, by omega⟩
      simp only [Nat.add_sub_cancel]
      rw [List.take_succ_eq_append_getElem (by omega)]
      simp
    rw [ht, List.dropWhile_cons_of_neg (by simp [hp]), ← ht, List.reverse_reverse]
theorem trim_eq (s : ByteArray) (n : Nat) (h : IsTrim s n) : (⟨(Lib.trimRightB s.data.toList 47).toArray⟩ : ByteArray) = s.extract 0 n := by
  obtain ⟨h1, h2, h3⟩ := h
  have e : Lib.trimRightB s.data.toList 47 = s.data.toList.take n := by
    refine dropWhile_rev _ n _ (by rw [sz]; exact h1) (fun j hj hn => ?_) ?_
    · rw [toList_get]; simp [h2 j hn (by simpa using hj)]
    · by_cases h0 : n = 0
      · exact .inl h0
      · refine .inr ⟨by simp; omega, ?_⟩
        rw [toList_get]
        rcases h3 with h3 | h3
        · exact absurd h3 h0
        · simpa using h3
  apply ByteArray.ext
  apply Array.ext'
  rw [e, ex_data]; simp
theorem ex_get (s : ByteArray) (n j : Nat) (h : j < n) (hn : n ≤ s.size) : (s.extract 0 n).data[j]! = s.data[j]! := by
  have h1 : j < (s.extract 0 n).data.toList.length := by simp [ByteArray.data_extract]; have : n ≤ s.data.size := hn; omega
  have h2 : j < s.data.toList.length := by have : n ≤ s.data.size := hn; simp; omega
  have h3 : (s.extract 0 n).data.toList = s.data.toList.take n := by rw [ex_data]; simp
  rw [← toList_get _ _ h1, ← toList_get _ _ h2]
  simp only [h3, List.getElem_take]
theorem last_eq (s : ByteArray) (n i : Nat) (hn : n ≤ s.size) (h : IsCut s n i) : Lib.lastIndexByte (s.extract 0 n) 47 = (i : Int) - 1 := by
  obtain ⟨h1, h2, h3⟩ := h
  have hsz : (s.extract 0 n).size = n := by simp [ByteArray.size_extract]; omega
  rcases Lib.lastIndexByte_spec (s.extract 0 n) 47 with ⟨e, hno⟩ | ⟨k, hk, e, hc, hlater⟩
  · rw [e]
    rcases h3 with h3 | h3
    · subst h3; rfl
    · by_cases h0 : i = 0
      · subst h0; rfl
      · exfalso
        refine hno (i - 1) (by omega) ?_
        rw [ex_get _ _ _ (by omega) hn, h3]; rfl
  · rw [e]
    rw [hsz] at hk hlater
    rw [ex_get _ _ _ hk hn] at hc
    have hc' : s.data[k]! = 47 := UInt8.toNat_inj.1 (by have : ((s.data[k]!).toNat : Int) = ((47 : UInt8).toNat : Int) := hc; omega)
    have : k < i := by
      rcases Nat.lt_or_ge k i with h | h
      · exact h
      · exact absurd hc' (h2 k h hk)
    rcases h3 with h3 | h3
    · omega
    · have : ¬ k < i - 1 := fun hlt => by
        have := hlater (i - 1) hlt (by omega)
        rw [ex_get _ _ _ (by omega) hn, h3] at this
        exact this rfl
      omega
end Go.Proofs.Ytafonmnfeibaiaa.Pp
namespace Go.Proofs.Ytafonmnfeibaiaa.Pp
def okb (c : UInt8) : Bool := decide (32 ≤ c.toNat) && decide (c.toNat ≠ 127)
/-- What Split tells of a text: from the root; a directory's; the names; the error. -/
def splitS (b : Bytes) : Bool × Bool × List Bytes × Int :=
  if b = [] then (false, false, [], 3)
  else if 128 < b.length ∨ ∃ x ∈ parts b, 14 < x.length then (false, false, [], 10)
  else if b.all okb = false then (false, false, [], 1)
  else (Lib.hasPrefix b [47], Lib.hasSuffix b [47] || (((parts b).getLast?.getD [] == [46]) || ((parts b).getLast?.getD [] == [46, 46])), (parts b).filter (fun x => decide (¬ x = [46])), 0)
end Go.Proofs.Ytafonmnfeibaiaa.Pp
/- Cut at one byte. -/
namespace Go.Proofs.Ytafonmnfeibaiaa.Pp
open Go.RowKit

theorem idx_cases : ∀ (l : Bytes) (c : UInt8), Lib.indexByte l c = -1 ∨ ∃ i : Nat, Lib.indexByte l c = i
  | [], _ => .inl rfl
  | b :: l, c => by
    unfold Lib.indexByte
    split
    · exact .inr ⟨0, rfl⟩
    · split
      · exact .inl rfl
      · rcases idx_cases l c with h | ⟨i, h⟩
        · rename_i h2; rw [h] at h2; exact absurd rfl h2
        · exact .inr ⟨i + 1, by rw [h]; rfl⟩
theorem at_d {d : UInt8} {l : Bytes} {i : Nat} (h : Lib.indexByte l d = i) : i < l.length ∧ d ∉ l.take i ∧ l = l.take i ++ d :: l.drop (i + 1) := by
  obtain ⟨h1, h2⟩ := Lib.indexByte_some h
  obtain ⟨hi, h3⟩ := List.getElem?_eq_some_iff.1 h1
  refine ⟨hi, fun hm => ?_, ?_⟩
  · obtain ⟨k, hk, he⟩ := List.getElem_of_mem hm
    rw [List.getElem_take] at he
    have hk' : k < i := by simp at hk; omega
    exact h2 k hk' (by rw [List.getElem?_eq_getElem (by omega), he])
  · conv => lhs; rw [← List.take_append_drop i l]
    rw [List.drop_eq_getElem_cons hi, h3]
theorem no_d {d : UInt8} {l : Bytes} (h : Lib.indexByte l d = -1) : d ∉ l := fun hm => by
  obtain ⟨k, hk, he⟩ := List.getElem_of_mem hm
  exact Lib.indexByte_none h k (by rw [List.getElem?_eq_getElem hk, he])
theorem toList_data (s : ByteArray) : s.toList = s.data.toList := ByteArray.toList_eq s

set_option maxHeartbeats 1000000 in
theorem cutl_some (d : UInt8) (s : ByteArray) (w : World) (i : Nat) (hi : Lib.indexByte s.data.toList d = i) (hs : s.size ≤ 140737488351232) :
    Calls Try.prog 118 #[.string s, .string ⟨#[d]⟩] w fun e w' => e = .returned (.tuple #[.string (s.extract 0 i), .string (s.extract (i + 1) s.size), .bool true]) ∧ ∃ n, w' = w.drewN n := by
  have hs1 : (s.size : Int) ≤ 140737488351232 := by omega
  have h1 := (at_d hi).1
  rw [sz] at h1
  have h1i : (i : Int) + 1 ≤ s.size := by omega
  have h1j : (i : Int) ≤ s.size := by omega
  have h1k : (0 : Int) ≤ (i : Int) + 1 := by omega
  have h1l : ((i : Int) + 1).toNat = i + 1 := by omega
  have HI := Lib.hid hi
  clear hi
  go_enter Try.func118, Try.ntmps118
  go_wp2_with fail
  refine (Try.stringslite_Index_one s d _).mono ?_
  rintro e w' ⟨rfl, rfl⟩
  rw [HI.out]
  go_wp2_with fail
  go_region
  go_wp2
  exact bodyPost_ret (v := .tuple #[.string (s.extract 0 i), .string (s.extract (i + 1) s.size), .bool true]) (by simp [results, Try.results118, go_sem]) rfl ⟨rfl, 1, rfl⟩
set_option maxHeartbeats 1000000 in
theorem cutl_none (d : UInt8) (s : ByteArray) (w : World) (hi : Lib.indexByte s.data.toList d = -1) :
    Calls Try.prog 118 #[.string s, .string ⟨#[d]⟩] w fun e w' => e = .returned (.tuple #[.string s, .string ⟨#[]⟩, .bool false]) ∧ ∃ n, w' = w.drewN n := by
  have HI := Lib.hid hi
  clear hi
  go_enter Try.func118, Try.ntmps118
  go_wp2_with fail
  refine (Try.stringslite_Index_one s d _).mono ?_
  rintro e w' ⟨rfl, rfl⟩
  rw [HI.out]
  go_wp2
  exact bodyPost_ret (v := .tuple #[.string s, .string ⟨#[]⟩, .bool false]) (by simp [results, Try.results118, go_sem]) rfl ⟨rfl, 0, rfl⟩
theorem cut_some (d : UInt8) (s : ByteArray) (w : World) (i : Nat) (hi : Lib.indexByte s.data.toList d = i) (hs : s.size ≤ 140737488351232) :
    Calls Try.prog 104 #[.string s, .string ⟨#[d]⟩] w fun e w' => e = .returned (.tuple #[.string (s.extract 0 i), .string (s.extract (i + 1) s.size), .bool true]) ∧ ∃ n, w' = w.drewN n := by
  have HI := Lib.hid hi
  clear hi
  go_enter Try.func104, Try.ntmps104
  go_wp2_with fail
  refine (cutl_some d s _ i HI.out hs).mono ?_
  rintro e w' ⟨rfl, n, rfl⟩
  go_wp2
  exact bodyPost_ret (v := .tuple #[.string (s.extract 0 i), .string (s.extract (i + 1) s.size), .bool true]) (by simp [results, Try.results104, go_sem]) rfl ⟨rfl, n, rfl⟩
theorem cut_none (d : UInt8) (s : ByteArray) (w : World) (hi : Lib.indexByte s.data.toList d = -1) :
    Calls Try.prog 104 #[.string s, .string ⟨#[d]⟩] w fun e w' => e = .returned (.tuple #[.string s, .string ⟨#[]⟩, .bool false]) ∧ ∃ n, w' = w.drewN n := by
  have HI := Lib.hid hi
  clear hi
  go_enter Try.func104, Try.ntmps104
  go_wp2_with fail
  refine (cutl_none d s _ HI.out).mono ?_
  rintro e w' ⟨rfl, n, rfl⟩
  go_wp2
  exact bodyPost_ret (v := .tuple #[.string s, .string ⟨#[]⟩, .bool false]) (by simp [results, Try.results104, go_sem]) rfl ⟨rfl, n, rfl⟩
def CutPost (d : UInt8) (s : ByteArray) (w : World) (e : Ending) (w' : World) : Prop :=
  ∃ (a b : ByteArray) (ok : Bool), e = .returned (.tuple #[.string a, .string b, .bool ok]) ∧ (∃ k, w' = w.drewN k) ∧ a.size ≤ s.size ∧ b.size ≤ s.size ∧
    ((ok = true ∧ s.data.toList = a.data.toList ++ d :: b.data.toList ∧ d ∉ a.data.toList) ∨ (ok = false ∧ d ∉ s.data.toList ∧ a = s ∧ b = ⟨#[]⟩))
theorem cut_any (d : UInt8) (s : ByteArray) (w : World) (hs : s.size ≤ 140737488351232) : Calls Try.prog 104 #[.string s, .string ⟨#[d]⟩] w (CutPost d s w) := by
  rcases idx_cases s.data.toList d with hi | ⟨i, hi⟩
  · refine (cut_none d s w hi).mono ?_
    rintro e w' ⟨rfl, hk⟩
    exact ⟨s, ⟨#[]⟩, false, rfl, hk, Nat.le_refl _, Nat.zero_le _, .inr ⟨rfl, no_d hi, rfl, rfl⟩⟩
  · refine (cut_some d s w i hi hs).mono ?_
    rintro e w' ⟨rfl, hk⟩
    obtain ⟨h1, h2, h3⟩ := at_d hi
    exact ⟨_, _, true, rfl, hk, by rw [ByteArray.size_extract]; exact Nat.le_trans (Nat.sub_le _ _) (Nat.min_le_right _ _), by rw [ByteArray.size_extract]; exact Nat.le_trans (Nat.sub_le _ _) (Nat.min_le_right _ _), .inl ⟨rfl, by
        rw [ex_data, ex_data, List.drop_zero, show s.data.toList.take s.size = s.data.toList from List.take_of_length_le (by rw [sz]; exact Nat.le_refl _)]; exact h3, by rw [ex_data, List.drop_zero]; exact h2⟩⟩
end Go.Proofs.Ytafonmnfeibaiaa.Pp
/- Path: no byte that may not be. -/
namespace Go.Proofs.Ytafonmnfeibaiaa.Pp
open Go.RowKit

theorem ret_bool {a b : Bool} (h : a = b) : Ending.returned (.bool a) = .returned (.bool b) := by rw [h]
/-- No byte is one that may not be. -/
def okc (c : UInt8) : Bool := decide (32 ≤ c.toNat) && decide (c.toNat ≠ 127)
def plainB (l : List UInt8) : Bool := l.all okc

theorem plain_take (s : ByteArray) (k : Nat) (h : k < s.size) : plainB (s.data.toList.take (k + 1)) = (plainB (s.data.toList.take k) && okc s[k]) := by
  unfold plainB
  rw [List.take_succ_eq_append_getElem (by simpa using h), List.all_append]
  simp only [List.all_cons, List.all_nil, Bool.and_true]
  rfl
theorem plain_all (s : ByteArray) (k : Nat) (hk : s.size ≤ k) : s.data.toList.take k = s.data.toList := List.take_of_length_le (by simpa using hk)
theorem plain_bad (s : ByteArray) (k : Nat) (h : k < s.size) (hb : okc s[k] = false) : plainB s.data.toList = false := by
  unfold plainB
  rw [List.all_eq_false]
  exact ⟨s[k], by have : s[k] = s.data.toList[k]'(by simpa using h) := rfl
                  rw [this]; exact List.getElem_mem _, by simp [hb]⟩

set_option maxHeartbeats 400000 in
theorem plain_any (s : ByteArray) (w : World) (hs : s.size ≤ 1000000) :
    Calls Try.prog 34 #[.string s] w fun e w' => e = .returned (.bool (plainB s.data.toList)) ∧ w = w' := by
  go_enter Try.func34, Try.ntmps34
  go_wp2
  go_loop [6] (fun i => ∃ k : Nat, k ≤ s.size ∧ i = .int .i64 k ∧ plainB (s.data.toList.take k) = true) (fun i => s.size - (intOf i).toNat)
  case atStart => exact ⟨0, Nat.zero_le _, rfl, rfl⟩
  case round =>
    obtain ⟨k, hk, rfl, hp⟩ := hrel
    have HP := Lib.hid hp
    clear hp
    by_cases hlt : k < s.size
    · by_cases h1 : (s[k].toNat : Int) < 32
      · have hb : okc s[k] = false := by simp [okc]; omega
        have HB := Lib.hid hb
        clear hb
        go_wp2
        go_ret
        exact ⟨ret_bool (plain_bad s k hlt HB.out).symm, rfl⟩
      · by_cases h2 : ((s[k].toNat : Int) == 127) = true
        · have hb : okc s[k] = false := by simp at h2; simp [okc]; omega
          have HB := Lib.hid hb
          clear hb
          go_wp2
          go_ret
          exact ⟨ret_bool (plain_bad s k hlt HB.out).symm, rfl⟩
        · have h3 : ((s[k].toNat : Int) == 127) = false := by simpa using h2
          have hb : okc s[k] = true := by simp at h3; simp [okc]; omega
          have HB := Lib.hid hb
          clear hb h2
          go_wp2
          go_round
          case rel => exact ⟨k + 1, by omega, by go_num, by rw [plain_take s k hlt, HP.out, HB.out]; rfl⟩
          case measure => simp [intOf]; omega
    · go_wp2
      go_ret
      exact ⟨ret_bool (by rw [plain_all s k (by omega)] at HP; exact HP.out.symm), rfl⟩
theorem info9 : (Try.prog.info? 9).map (fun i => (i.zero, i.size, i.bytes)) = some (some (.string ByteArray.empty), 1, 16) := by kernel_rfl

theorem own_ge {w : World} {base : Nat} {e : TypeId} {sz n : Nat} {v : Value} {xs : List Value} (h : w.ownsRow base e sz v n xs) : ∀ k, v.ownBlock = some k → base ≤ k := by
  intro k hk
  obtain ⟨_, ⟨rfl, h0⟩ | ⟨g, cap, cur, rfl, hb, _⟩⟩ := h
  · cases hk
  · cases hk; exact hb
theorem app_below {w wr w1 : World} {o : Value} {n : Nat} {xs : List Value} (hb : Below w.heap.size w wr) (ho : wr.ownsRow w.heap.size 9 1 o n xs) (X : Obj) (hg : (wr.alloc X).grownBy w1 o.ownBlock) : Below w.heap.size w w1 :=
  (hb.alloc hb.size X).grown hg (by have := hb.size; rw [World.size_alloc]; omega) (own_ge ho)

end Go.Proofs.Ytafonmnfeibaiaa.Pp
namespace Go.Proofs.Ytafonmnfeibaiaa.Pp
open Go.RowKit Go.Shelf
attribute [local go_sem] Oper.semAt_some

/-- How much of the text is left in the iterator's own cell. -/
def left (Bn : Nat) (w : World) : Nat := match w.cell? ⟨Bn, 0, none⟩ with
  | some (.string r) => r.size
  | _ => 0
theorem left_eq {Bn : Nat} {w : World} {r : ByteArray} (h : w.cell? ⟨Bn, 0, none⟩ = some (.string r)) : left Bn w = r.size := by simp [left, h]

set_option maxHeartbeats 1000000 in
/-- The iterator: each name goes to yield, till that says no. J: what holds between two rounds, behind the names that have come; the iterator writes its own cell Bn alone, and draws. -/
theorem names_in (n l Bn : Nat) (s : ByteArray) (J : List ByteArray → World → Prop) (Jx : World → Prop) (hs : s.size ≤ 1000000)
    (hY : ∀ pre x W, J pre W → x.data.toList ∈ parts s.data.toList → x.size ≤ s.size → pre.length < s.size → YieldAt Fence.wide (n - 1) Try.prog l #[.string x] W fun e W' =>
      (e = .returned (.bool true) ∧ J (pre ++ [x]) W' ∧ W'.heap[Bn]? = W.heap[Bn]?) ∨ (e = .returned (.bool false) ∧ Jx W'))
    (hC : ∀ pre W v, J pre W → J pre (W.setCell ⟨Bn, 0, none⟩ v)) (hD : ∀ pre W q, J pre W → J pre (W.drewN q))
    (W : World) (hc : W.cell? ⟨Bn, 0, none⟩ = some (.string s)) (hf : W.frozen? ⟨Bn, 0, none⟩ = false) (h0 : J [] W) :
    CallsIn Fence.wide n Try.prog 103 #[.func (.yield l) #[] #[], .pointer (some ⟨Bn, 0, none⟩)] W fun e W' => (∃ v, e = .returned v) ∧
      ((∃ xs, xs.map (fun x : ByteArray => x.data.toList) = parts s.data.toList ∧ J xs W') ∨ Jx W') := by
  refine callsIn_of_wp Try.func103 rfl trivial ?_ rfl
  simp only [Try.ntmps103, List.size_toArray, List.length_cons, List.length_nil, Nat.reduceAdd, Nat.reduceSub, Array.replicate_succ, Array.replicate_zero, List.push_toArray, List.append_toArray, List.nil_append, List.cons_append]
  have HY := Lib.hid hY
  have HC := Lib.hid hC
  have HD := Lib.hid hD
  have H0 := Lib.hid h0
  have HCell := Lib.hid hc
  have HF := Lib.hid hf
  clear hY hC hD h0 hc hf
  gi_wp2
  gi_loopw [3] (fun _ wr => ∃ (pre : List ByteArray) (r : ByteArray), wr.cell? ⟨Bn, 0, none⟩ = some (.string r) ∧ wr.frozen? ⟨Bn, 0, none⟩ = false ∧ pre.length + r.size ≤ s.size ∧ parts s.data.toList = pre.map (fun x : ByteArray => x.data.toList) ++ parts r.data.toList ∧ J pre wr)
    (fun _ wr => left Bn wr)
  case atStart =>
    exact ⟨[], s, HCell.out, HF.out, by simp, by simp, H0.out⟩
  case round =>
    obtain ⟨pre, r, hcr, hfr, hl, hp, hJ⟩ := hrel
    have HP := Lib.hid hp
    have HJ := Lib.hid hJ
    have HL := Lib.hid hl
    clear hp hJ hl
    by_cases hr : r.data.toList = []
    · have hr1 : r.toList = [] := by rw [toList_data]; exact hr
      have HR := Lib.hid hr
      clear hr
      gi_wp2
      go_end0
      exact ⟨⟨_, rfl⟩, .inl ⟨pre, by rw [HP.out, HR.out]; simp [parts_nil], HJ.out⟩⟩
    · have hr1 : r.toList.isEmpty = false := by rw [toList_data]; cases hh : r.data.toList with | nil => exact absurd hh hr | cons => rfl
      have HR := Lib.hid hr
      clear hr
      rcases Int.lt_or_le (Lib.indexByte r.data.toList 47) 0 with hi | hi
      · have HI : Hid (Lib.indexByte r.data.toList 47 = -1) := Lib.hid (by have := Lib.indexByte_ge r.data.toList 47; omega)
        clear hi
        gi_wp2_with fail
        refine ⟨trivial, fun h => (by cases h), ?_⟩
        refine (callsIn_wide.2 (cut_none 47 r _ HI.out)).mono ?_
        rintro e w' ⟨rfl, q, rfl⟩
        have HX : Hid (r.data.toList ≠ []) := HR
        have hrz : 0 < r.size := by rw [← sz]; exact List.length_pos_iff.2 HR.out
        have HPE := Lib.hid (parts_end r.data.toList (no_stroke HI.out))
        obtain ⟨fn, tmps, assign, body, hy, hR⟩ := HY.out pre r (wr.drewN q) (HD.out _ _ _ HJ.out) (by rw [HP.out, HPE.out, if_neg HX.out]; simp) (by have := HL.out; omega) (by have := HL.out; omega)
        gi_wp2
        refine ⟨fun h => (by cases h), hR.mono ?_⟩
        rintro e W3 (⟨rfl, hJ3, hk3⟩ | ⟨rfl, hJx3⟩)
        · have hc3 : W3.cell? ⟨Bn, 0, none⟩ = some (.string r) := (World.cell?_of_block (w := wr.drewN q) (a := ⟨Bn, 0, none⟩) hk3).trans hcr
          have hf3 : W3.frozen? ⟨Bn, 0, none⟩ = false := (World.frozen?_of_block (w := wr.drewN q) (a := ⟨Bn, 0, none⟩) hk3).trans hfr
          have HJ3 := Lib.hid hJ3
          clear hJ3 hk3 hy hR
          gi_wp2
          have e1 : (W3.setCell ⟨Bn, 0, none⟩ (.string ⟨#[]⟩)).cell? ⟨Bn, 0, none⟩ = some (.string ⟨#[]⟩) := World.cell?_setCell_same _ _ _ hc3
          go_roundw
          case rel => exact ⟨pre ++ [r], ⟨#[]⟩, e1, by rw [World.frozen?_setCell]; exact hf3, by have := HL.out; have e9 : ({ data := #[] } : ByteArray).size = 0 := rfl; simp only [List.length_append, List.length_cons, List.length_nil]; omega, by rw [HP.out, HPE.out, if_neg HR.out, show (({ data := #[] } : ByteArray).data.toList) = [] from rfl, parts_nil]; simp, HC.out _ _ _ HJ3.out⟩
          case measure => rw [left_eq e1, left_eq hcr]; exact hrz
        · gi_wp2
          refine bodyPost_ret (results_none rfl _ _ _) rfl ?_
          exact ⟨⟨_, rfl⟩, .inr hJx3⟩
      · obtain ⟨i, hi'⟩ : ∃ i : Nat, Lib.indexByte r.data.toList 47 = i := ⟨(Lib.indexByte r.data.toList 47).toNat, by omega⟩
        have HI := Lib.hid hi'
        have hilt : i < r.size := by have := (stroke_at hi').1; rwa [sz] at this
        have HPE : Hid (parts r.data.toList = (if (r.extract 0 i).data.toList = [] then [] else [(r.extract 0 i).data.toList]) ++ parts (r.extract (i + 1) r.size).data.toList) := Lib.hid (by
          obtain ⟨h1, h2, h3⟩ := stroke_at hi'
          have e1 : (r.extract 0 i).data.toList = r.data.toList.take i := by rw [ex_data]; simp
          have e2 : (r.extract (i + 1) r.size).data.toList = r.data.toList.drop (i + 1) := by rw [ex_data, List.take_of_length_le (by rw [sz]; exact Nat.le_refl _)]
          rw [e1, e2]
          conv => lhs; rw [h3]
          exact parts_cut _ _ h2)
        have hes : (r.extract 0 i).size = i := by simp [ByteArray.size_extract]; omega
        have HES := Lib.hid hes
        clear hi hi' hes
        gi_wp2_with fail
        refine ⟨trivial, fun h => (by cases h), ?_⟩
        refine (callsIn_wide.2 (cut_some 47 r _ i HI.out (by have := HL.out; omega))).mono ?_
        rintro e w' ⟨rfl, q, rfl⟩
        by_cases h0 : i = 0
        · subst h0
          have hx2 : (r.extract 0 0).data.toList = [] := by rw [ex_data]; simp
          have hx1 : (r.extract 0 0).toList = [] := by rw [toList_data]; exact hx2
          have HX := Lib.hid hx2
          have hcr2 : (wr.drewN q).cell? ⟨Bn, 0, none⟩ = some (.string r) := hcr
          clear hx2
          gi_wp2
          refine ⟨fun _ h => (by cases h), ?_⟩
          gi_wp2
          have e1 : ((wr.drewN q).setCell ⟨Bn, 0, none⟩ (.string (r.extract 1 r.size))).cell? ⟨Bn, 0, none⟩ = some (.string (r.extract 1 r.size)) := World.cell?_setCell_same _ _ _ hcr2
          go_roundw
          case rel => exact ⟨pre, r.extract 1 r.size, e1, by rw [World.frozen?_setCell]; exact hfr, by have := HL.out; simp [ByteArray.size_extract]; omega, by rw [HP.out, HPE.out, if_pos HX.out]; simp, HC.out _ _ _ (HD.out _ _ _ HJ.out)⟩
          case measure => rw [left_eq e1, left_eq hcr]; simp [ByteArray.size_extract]; omega
        · have HX : Hid ((r.extract 0 i).data.toList ≠ []) := Lib.hid (fun e => by have := congrArg List.length e; rw [sz, HES.out] at this; exact h0 this)
          have hx1 : (r.extract 0 i).toList.isEmpty = false := by rw [toList_data]; cases hh : (r.extract 0 i).data.toList with | nil => exact absurd hh HX.out | cons => rfl
          obtain ⟨fn, tmps, assign, body, hy, hR⟩ := HY.out pre (r.extract 0 i) (wr.drewN q) (HD.out _ _ _ HJ.out) (by rw [HP.out, HPE.out, if_neg HX.out]; simp) (by have := HL.out; simp [ByteArray.size_extract]; omega) (by have := HL.out; omega)
          gi_wp2
          refine ⟨fun h => (by cases h), hR.mono ?_⟩
          rintro e W3 (⟨rfl, hJ3, hk3⟩ | ⟨rfl, hJx3⟩)
          · have hc3 : W3.cell? ⟨Bn, 0, none⟩ = some (.string r) := (World.cell?_of_block (w := wr.drewN q) (a := ⟨Bn, 0, none⟩) hk3).trans hcr
            have hf3 : W3.frozen? ⟨Bn, 0, none⟩ = false := (World.frozen?_of_block (w := wr.drewN q) (a := ⟨Bn, 0, none⟩) hk3).trans hfr
            have HJ3 := Lib.hid hJ3
            clear hJ3 hk3 hy hR
            gi_wp2
            have e1 : (W3.setCell ⟨Bn, 0, none⟩ (.string (r.extract (i + 1) r.size))).cell? ⟨Bn, 0, none⟩ = some (.string (r.extract (i + 1) r.size)) := World.cell?_setCell_same _ _ _ hc3
            go_roundw
            case rel => exact ⟨pre ++ [(r.extract 0 i)], (r.extract (i + 1) r.size), e1, by rw [World.frozen?_setCell]; exact hf3, by have := HL.out; simp [ByteArray.size_extract]; omega, by rw [HP.out, HPE.out, if_neg HX.out]; simp, HC.out _ _ _ HJ3.out⟩
            case measure => rw [left_eq e1, left_eq hcr]; simp [ByteArray.size_extract]; omega
          · gi_wp2
            refine bodyPost_ret (results_none rfl _ _ _) rfl ?_
            exact ⟨⟨_, rfl⟩, .inr hJx3⟩
end Go.Proofs.Ytafonmnfeibaiaa.Pp
namespace Go.Proofs.Ytafonmnfeibaiaa.Pp
open Go.RowKit Go.Shelf
attribute [local go_sem] Oper.semAt_some

def kept (xs : List ByteArray) : List ByteArray := xs.filter fun x => decide (¬ x.data.toList = [46])
def lastOf (xs : List ByteArray) : ByteArray := (xs.getLast?).getD ⟨#[]⟩
theorem kept_yes (xs : List ByteArray) (x : ByteArray) (h : ¬ x.data.toList = [46]) : kept (xs ++ [x]) = kept xs ++ [x] := by simp [kept, List.filter_append, h]
theorem kept_no (xs : List ByteArray) (x : ByteArray) (h : x.data.toList = [46]) : kept (xs ++ [x]) = kept xs := by simp [kept, List.filter_append, h]
theorem kept_len (xs : List ByteArray) : (kept xs).length ≤ xs.length := List.length_filter_le _ _
theorem last_app (xs : List ByteArray) (x : ByteArray) : lastOf (xs ++ [x]) = x := by simp [lastOf]

theorem own_same {W W' : World} {base n : Nat} {v : Value} {xs : List Value} (h : W.ownsRow base 9 1 v n xs) (hs : ∀ g o, base ≤ g → W.heap[g]? = some o → W'.heap[g]? = some o) : W'.ownsRow base 9 1 v n xs := by
  obtain ⟨h1, ⟨h2, h3⟩ | ⟨g, cap, cur, h2, hb, hh, rest⟩⟩ := h
  · exact ⟨h1, .inl ⟨h2, h3⟩⟩
  · exact ⟨h1, .inr ⟨g, cap, cur, h2, hb, hs g _ hb hh, rest⟩⟩

/-- What Split holds between two rounds, behind the names xs. -/
structure SI (w0 : World) (abs dir : Bool) (lp : Obj) (xs : List ByteArray) (W : World) : Prop where
  below : Below w0.heap.size w0 W
  res : W.heap[w0.heap.size]? = some (.cells #[.bool false, .slice none 0 0, .bool false] 115 (0, 0))
  err : W.heap[w0.heap.size + 1]? = some (.cells #[.int .i64 0] 30 (0, 0))
  p : ∃ v, W.heap[w0.heap.size + 2]? = some (.cells #[.bool abs, v, .bool dir] 115 (0, 0)) ∧ W.ownsRow (w0.heap.size + 7) 9 1 v (kept xs).length ((kept xs).map .string)
  last : W.heap[w0.heap.size + 3]? = some (.cells #[.string (lastOf xs)] 9 (0, 0))
  dfr : W.heap[w0.heap.size + 5]? = some (.deferred (some []))
  loop : W.heap[w0.heap.size + 6]? = some lp
  size : w0.heap.size + 7 ≤ W.heap.size

theorem SI.turn {w0 W W' : World} {abs dir : Bool} {lp : Obj} {xs : List ByteArray} (h : SI w0 abs dir lp xs W) (hs : ∀ g o, g ≠ w0.heap.size + 4 → W.heap[g]? = some o → W'.heap[g]? = some o) (hb : Below w0.heap.size W W') : SI w0 abs dir lp xs W' where
  below := h.below.trans hb
  res := hs _ _ (by omega) h.res
  err := hs _ _ (by omega) h.err
  p := by obtain ⟨v, h1, h2⟩ := h.p; exact ⟨v, hs _ _ (by omega) h1, own_same h2 (fun g o hg => hs g o (by omega))⟩
  last := hs _ _ (by omega) h.last
  dfr := hs _ _ (by omega) h.dfr
  loop := hs _ _ (by omega) h.loop
  size := Nat.le_trans h.size hb.size
theorem SI.setOwn {w0 W : World} {abs dir : Bool} {lp : Obj} {xs : List ByteArray} (h : SI w0 abs dir lp xs W) (v : Value) : SI w0 abs dir lp xs (W.setCell ⟨w0.heap.size + 4, 0, none⟩ v) :=
  h.turn (fun g o hg ho => by rw [Below.heap_setCell _ _ _ _ hg]; exact ho) ((Below.refl _ _).setCell (by simp) _)
theorem SI.drewN {w0 W : World} {abs dir : Bool} {lp : Obj} {xs : List ByteArray} (h : SI w0 abs dir lp xs W) (q : Nat) : SI w0 abs dir lp xs (W.drewN q) :=
  h.turn (fun _ _ _ ho => ho) ⟨rfl, rfl, rfl, Nat.le_refl _, fun _ _ => rfl⟩
theorem SI.alloc {w0 W : World} {abs dir : Bool} {lp : Obj} {xs : List ByteArray} (h : SI w0 abs dir lp xs W) (o : Obj) : SI w0 abs dir lp xs (W.alloc o) :=
  h.turn (fun g o' _ ho => by rw [Below.heap_alloc _ _ _ (Array.getElem?_eq_some_iff.1 ho).1]; exact ho) ((Below.refl _ _).alloc (by have := h.size; omega) _)
theorem SI.put {w0 W : World} {abs dir : Bool} {lp : Obj} {xs : List ByteArray} (h : SI w0 abs dir lp xs W) (lp' : Obj) : SI w0 abs dir lp' xs (W.putObj (w0.heap.size + 6) lp') where
  below := h.below.trans ⟨rfl, rfl, rfl, by simp, fun k hk => World.putObj_heap_other (by omega)⟩
  res := (World.putObj_heap_other (by omega)).trans h.res
  err := (World.putObj_heap_other (by omega)).trans h.err
  p := by
    obtain ⟨v, h1, h2⟩ := h.p
    exact ⟨v, (World.putObj_heap_other (by omega)).trans h1, own_same h2 (fun g o hg ho => (World.putObj_heap_other (by omega)).trans ho)⟩
  last := (World.putObj_heap_other (by omega)).trans h.last
  dfr := (World.putObj_heap_other (by omega)).trans h.dfr
  loop := World.putObj_heap_same (by have := h.size; omega)
  size := by rw [World.putObj_size]; exact h.size

theorem heap_cell {w : World} {b : Nat} {C : Array Value} {T : TypeId} {f : Nat × Nat} (h : w.heap[b]? = some (.cells C T f)) (i : Nat) : w.cell? ⟨b, i, none⟩ = C[i]? := by simp [World.cell?, h]
theorem heap_free {w : World} {b : Nat} {C : Array Value} {T : TypeId} (h : w.heap[b]? = some (.cells C T (0, 0))) (i : Nat) : w.frozen? ⟨b, i, none⟩ = false := by simp [World.frozen?, h]

set_option maxHeartbeats 400000 in
theorem mk_names (s : ByteArray) (w : World) :
    Calls Try.prog 93 #[.string s] w fun e w' => e = .returned (.func (.func 103) #[] #[.pointer (some ⟨w.heap.size, 0, none⟩)]) ∧ w' = w.alloc (.cells #[.string s] 9) := by
  go_enter Try.func93, Try.ntmps93
  go_wp2
  go_ret
  exact ⟨rfl, rfl⟩

def splitPost (s : ByteArray) (w : World) (e : Ending) (w' : World) : Prop :=
  ∃ (abs dir : Bool) (v : Value) (l : List ByteArray) (err : Int), e = .returned (.tuple #[.agg #[.bool abs, v, .bool dir], .int .i64 err]) ∧ w'.ownsRow w.heap.size 9 1 v l.length (l.map .string) ∧ Below w.heap.size w w' ∧
    splitS s.data.toList = (abs, dir, l.map (fun x : ByteArray => x.data.toList), err)

/-- A range over the names: what is asked is the one call of the iterator. -/
theorem range_names {g : Operand} {ps : Array Tmp} {assign body : Code} {Q : Exit → Act → World → Prop} {a : Act} (W : World) (ptr : Value) (hg : a.eval g = .func (.func 103) #[] #[ptr])
    (hcall : ∀ fn : FuncId, CallsIn Fence.wide 2 Try.prog 103 #[.func (.yield (W.heap.size + 1)) #[] #[], ptr]
      ((W.alloc (.deferred (some []))).alloc (.loop { state := .ready, pending := none, fn, tmps := a.tmps, params := ps, assign, body, defers := W.heap.size }))
      (rangePost Fence.wide 3 Try.prog (W.heap.size + 1) Q { a with defers := [{ target := .collected W.heap.size, args := #[] }] ++ a.defers })) :
    (Code.rangeFunc g ps assign body).wpIn Fence.wide 3 Try.prog Q a W := by
  refine wpIn_rangeFunc (fun fn _ => ?_)
  obtain ⟨W1, hW1⟩ : ∃ W1, (W.alloc (.deferred (some []))).alloc (.loop { state := .ready, pending := none, fn, tmps := a.tmps, params := ps, assign, body, defers := W.heap.size }) = W1 := ⟨_, rfl⟩
  have hc := hcall fn
  rw [hW1] at hc
  refine ⟨W.heap.size + 1, [{ target := .collected W.heap.size, args := #[] }], W1, { target := .fn (.func 103) #[ptr], args := #[.func (.yield (W.heap.size + 1)) #[] #[]] }, W1, 103, #[.func (.yield (W.heap.size + 1)) #[] #[], ptr], W1, ?_, ?_, fun _ _ => trivial, ?_, fun h => (by cases h), hc⟩
  · rw [← hW1]; exact run_enterLoop_outer _ _ _ _ _
  · simp only [resolve, hg]
    simp [go_sem]
  · have he := enters_of (P := Try.prog) Try.func103 (by kernel_rfl) rfl
    simp [invoke, go_sem, he]

theorem below_put {n : Nat} {w W : World} {l : Nat} {o : Obj} (h : Below n w W) (hl : n ≤ l) : Below n w (W.putObj l o) :=
  h.trans ⟨rfl, rfl, rfl, by simp, fun k hk => World.putObj_heap_other (by omega)⟩
theorem push7 (h : Array Obj) (a b c d e f g : Obj) :
    let H := ((((((h.push a).push b).push c).push d).push e).push f).push g
    H[h.size]? = some a ∧ H[h.size + 1]? = some b ∧ H[h.size + 2]? = some c ∧ H[h.size + 3]? = some d ∧ H[h.size + 4]? = some e ∧ H[h.size + 5]? = some f ∧ H[h.size + 6]? = some g := by
  simp only [Array.getElem?_push, Array.size_push]
  refine ⟨?_, ?_, ?_, ?_, ?_, ?_, ?_⟩ <;> repeat (first | rw [if_pos trivial] | rw [if_neg (by omega)] | rw [if_pos (by omega)])

/-- Split has met a name that is too long. -/
def Stop (w0 : World) (s : ByteArray) (r : Loop) (W : World) : Prop :=
  Below w0.heap.size w0 W ∧ W.heap[w0.heap.size]? = some (.cells #[.bool false, .slice none 0 0, .bool false] 115 (0, 0)) ∧ W.heap[w0.heap.size + 1]? = some (.cells #[.int .i64 10] 30 (0, 0)) ∧
  W.heap[w0.heap.size + 5]? = some (.deferred (some [])) ∧ W.heap[w0.heap.size + 6]? = some (.loop { r with state := .done, pending := some .ret }) ∧ (∃ x ∈ parts s.data.toList, 14 < x.length)
def Short (xs : List ByteArray) : Prop := ∀ x ∈ xs, x.size ≤ 14
def roundR (w0 : World) (s : ByteArray) (abs dir : Bool) (r : Loop) (pre : List ByteArray) (x : ByteArray) (W : World) (e : Ending) (W' : World) : Prop :=
  (e = .returned (.bool true) ∧ (SI w0 abs dir (.loop r) (pre ++ [x]) W' ∧ Short (pre ++ [x])) ∧ W'.heap[w0.heap.size + 4]? = W.heap[w0.heap.size + 4]?) ∨ (e = .returned (.bool false) ∧ Stop w0 s r W')

theorem iter_calls (w0 : World) (s : ByteArray) (hs : s.size ≤ 128) (abs dir : Bool) (r : Loop) (hp : r.params.size = 1) (W : World) (h : SI w0 abs dir (.loop r) [] ((W.alloc (.deferred (some []))).alloc (.loop r)))
    (hc : ((W.alloc (.deferred (some []))).alloc (.loop r)).heap[w0.heap.size + 4]? = some (.cells #[.string s] 9 (0, 0)))
    (hR : ∀ pre x W, SI w0 abs dir (.loop r) pre W → Short pre → x.data.toList ∈ parts s.data.toList → x.size ≤ 128 → pre.length < 128 →
      RoundIn Fence.wide 1 Try.prog (w0.heap.size + 6) r.fn ((r.params.zip #[.string x]).foldl (fun t (p, v) => t.setIfInBounds p v) r.tmps) r.assign r.body W (roundR w0 s abs dir r pre x W)) :
    CallsIn Fence.wide 2 Try.prog 103 #[.func (.yield (w0.heap.size + 6)) #[] #[], .pointer (some ⟨w0.heap.size + 4, 0, none⟩)] ((W.alloc (.deferred (some []))).alloc (.loop r)) fun e W' => (∃ v, e = .returned v) ∧
      ((∃ xs, xs.map (fun x : ByteArray => x.data.toList) = parts s.data.toList ∧ SI w0 abs dir (.loop r) xs W' ∧ Short xs) ∨ Stop w0 s r W') := by
  refine names_in 2 (w0.heap.size + 6) (w0.heap.size + 4) s (fun xs W => SI w0 abs dir (.loop r) xs W ∧ Short xs) (Stop w0 s r) (by omega) ?_ (fun pre W v hh => ⟨hh.1.setOwn v, hh.2⟩) (fun pre W q hh => ⟨hh.1.drewN q, hh.2⟩) _ (heap_cell hc 0) (heap_free hc 0) ⟨h, fun x hx => by cases hx⟩
  intro pre x W hh hx hsz hlen
  exact ⟨r.fn, _, r.assign, r.body, run_yield hh.1.loop (by rw [hp]; rfl), hR pre x W hh.1 hh.2 hx (by omega) (by omega)⟩

theorem short_app {pre : List ByteArray} {x : ByteArray} (h : Short pre) (hx : ¬ 14 < x.size) : Short (pre ++ [x]) := fun y hy => by
  rcases List.mem_append.1 hy with h1 | h1
  · exact h y h1
  · have : y = x := by simpa using h1
    rw [this]; omega
theorem begin_round {w0 W : World} {abs dir : Bool} {r : Loop} {pre : List ByteArray} (h : SI w0 abs dir (.loop r) pre W) (hr : r.state = .ready) {K : World → Prop}
    (hK : ∀ W3, SI w0 abs dir (.loop { r with state := .busy }) pre W3 → W3.heap[w0.heap.size + 4]? = W.heap[w0.heap.size + 4]? → K W3) : ∃ w₂, (Instr.beginRound (w0.heap.size + 6)).run Try.prog W = .ok () w₂ ∧ K w₂ :=
  ⟨_, run_beginRound h.loop hr, hK _ (h.put _) (World.putObj_heap_other (by omega))⟩
theorem set_same {w : World} {b i : Nat} {C : Array Value} {T : TypeId} {f : Nat × Nat} (h : w.heap[b]? = some (.cells C T f)) (v : Value) : (w.setCell ⟨b, i, none⟩ v).heap[b]? = some (.cells (C.setIfInBounds i v) T f) := by
  simp [World.setCell, Array.getElem?_modify, h]
theorem set_other {w : World} {b c i : Nat} {o : Obj} (h : w.heap[c]? = some o) (v : Value) (hne : c ≠ b) : (w.setCell ⟨b, i, none⟩ v).heap[c]? = some o := by
  rw [Below.heap_setCell _ _ _ _ hne]; exact h
/-- The round in which a name is too long. -/
theorem SI.stopped {w0 W2 W : World} {s : ByteArray} {abs dir : Bool} {r : Loop} {pre : List ByteArray} {x : ByteArray} (h : SI w0 abs dir (.loop { r with state := .busy }) pre W) (hx : x.data.toList ∈ parts s.data.toList) (hl : 14 < x.size) :
    ∃ v w', (Instr.endRound (w0.heap.size + 6) (some .ret)).run Try.prog ((((W.setCell ⟨w0.heap.size, 0, none⟩ (.bool false)).setCell ⟨w0.heap.size, 1, none⟩ (.slice none 0 0)).setCell ⟨w0.heap.size, 2, none⟩ (.bool false)).setCell ⟨w0.heap.size + 1, 0, none⟩ (.int .i64 10)) = .ok v w' ∧ roundR w0 s abs dir r pre x W2 (.returned v) w' := by
  obtain ⟨W5, hW5⟩ : ∃ W5, ((((W.setCell ⟨w0.heap.size, 0, none⟩ (.bool false)).setCell ⟨w0.heap.size, 1, none⟩ (.slice none 0 0)).setCell ⟨w0.heap.size, 2, none⟩ (.bool false)).setCell ⟨w0.heap.size + 1, 0, none⟩ (.int .i64 10)) = W5 := ⟨_, rfl⟩
  have b5 : Below w0.heap.size W W5 := by rw [← hW5]; exact ((((Below.refl _ _).setCell (by simp) _).setCell (by simp) _).setCell (by simp) _).setCell (by simp) _
  have r5 : W5.heap[w0.heap.size]? = some (.cells #[.bool false, .slice none 0 0, .bool false] 115 (0, 0)) := by
    rw [← hW5]; exact set_other (set_same (set_same (set_same h.res _) _) _) _ (by omega)
  have e5 : W5.heap[w0.heap.size + 1]? = some (.cells #[.int .i64 10] 30 (0, 0)) := by
    rw [← hW5]; exact set_same (set_other (set_other (set_other h.err _ (by omega)) _ (by omega)) _ (by omega)) _
  have d5 : W5.heap[w0.heap.size + 5]? = some (.deferred (some [])) := by
    rw [← hW5]; exact set_other (set_other (set_other (set_other h.dfr _ (by omega)) _ (by omega)) _ (by omega)) _ (by omega)
  have l5 : W5.heap[w0.heap.size + 6]? = some (.loop { r with state := .busy }) := by
    rw [← hW5]; exact set_other (set_other (set_other (set_other h.loop _ (by omega)) _ (by omega)) _ (by omega)) _ (by omega)
  rw [hW5]
  refine ⟨_, _, run_endRound (some .ret) l5, .inr ⟨rfl, h.below.trans (b5.trans ⟨rfl, rfl, rfl, by simp, fun k hk => World.putObj_heap_other (by omega)⟩), (World.putObj_heap_other (by omega)).trans r5, (World.putObj_heap_other (by omega)).trans e5, (World.putObj_heap_other (by omega)).trans d5, ?_, x.data.toList, hx, by rw [sz]; exact hl⟩⟩
  exact World.putObj_heap_same (by obtain ⟨h1, _⟩ := Array.getElem?_eq_some_iff.1 l5; exact h1)
/-- A round that goes on. -/
theorem SI.goes {w0 W2 W : World} {s : ByteArray} {abs dir : Bool} {r : Loop} {pre : List ByteArray} {x : ByteArray} (h : SI w0 abs dir (.loop { r with state := .busy }) (pre ++ [x]) W) (hr : r.state = .ready) (hp : r.pending = none) (hsh : Short (pre ++ [x])) (hb : W.heap[w0.heap.size + 4]? = W2.heap[w0.heap.size + 4]?) :
    ∃ v w', (Instr.endRound (w0.heap.size + 6) none).run Try.prog W = .ok v w' ∧ roundR w0 s abs dir r pre x W2 (.returned v) w' := by
  refine ⟨_, _, run_endRound none h.loop, .inl ⟨rfl, ⟨?_, hsh⟩, (World.putObj_heap_other (by omega)).trans hb⟩⟩
  have := h.put (.loop r)
  obtain ⟨st, pe, f1, f2, f3, f4, f5, f6⟩ := r
  simp only at hr hp
  subst hr hp
  exact this

theorem SI.lastSet {w0 W : World} {abs dir : Bool} {lp : Obj} {pre : List ByteArray} {x : ByteArray} (h : SI w0 abs dir lp pre W) (hk : kept (pre ++ [x]) = kept pre) : SI w0 abs dir lp (pre ++ [x]) (W.setCell ⟨w0.heap.size + 3, 0, none⟩ (.string x)) where
  below := h.below.setCell (by simp) _
  res := set_other h.res _ (by omega)
  err := set_other h.err _ (by omega)
  p := by
    obtain ⟨v, h1, h2⟩ := h.p
    rw [hk]
    exact ⟨v, set_other h1 _ (by omega), own_same h2 (fun g o hg ho => set_other ho _ (by omega))⟩
  last := by rw [last_app]; exact set_same h.last _
  dfr := set_other h.dfr _ (by omega)
  loop := set_other h.loop _ (by omega)
  size := by simpa [World.setCell] using h.size
theorem SI.own2 {w0 W : World} {v : Value} {k : Nat} {xs : List Value} (h2 : W.ownsRow (w0.heap.size + 7) 9 1 v k xs) (x : ByteArray) : (W.setCell ⟨w0.heap.size + 3, 0, none⟩ (.string x)).ownsRow (w0.heap.size + 7) 9 1 v k xs :=
  own_same h2 (fun g o hg ho => set_other ho _ (by omega))
theorem cell_one_set (W : World) (a : Addr) (u x : Value) : ∀ j y, [x][j]? = some y → ((W.setCell a u).alloc (.cells #[x] 9)).cell? ((⟨W.heap.size, 0, none⟩ : Addr).add j) = some y := by
  intro j y hj
  have h := cell_one_new (W.setCell a u) x 9 j y hj
  have e : (W.setCell a u).heap.size = W.heap.size := by simp [World.setCell]
  rw [e] at h; exact h
theorem SI.appended {w0 W w1 : World} {abs dir : Bool} {lp : Obj} {pre : List ByteArray} {x : ByteArray} {v v' : Value} (h : SI w0 abs dir lp pre W) (hk : kept (pre ++ [x]) = kept pre ++ [x])
    (hp : W.heap[w0.heap.size + 2]? = some (.cells #[.bool abs, v, .bool dir] 115 (0, 0))) (hv : ∀ k, v.ownBlock = some k → w0.heap.size + 7 ≤ k)
    (hg : ((W.setCell ⟨w0.heap.size + 3, 0, none⟩ (.string x)).alloc (.cells #[.string x] 9)).grownBy w1 v.ownBlock)
    (ho : w1.ownsRow (w0.heap.size + 7) 9 1 v' ((kept pre).length + 1) ((kept pre).map .string ++ [.string x])) :
    SI w0 abs dir lp (pre ++ [x]) (w1.setCell ⟨w0.heap.size + 2, 1, none⟩ v') ∧ (w1.setCell ⟨w0.heap.size + 2, 1, none⟩ v').heap[w0.heap.size + 4]? = W.heap[w0.heap.size + 4]? := by
  have hz := h.size
  have hsz : ((W.setCell ⟨w0.heap.size + 3, 0, none⟩ (.string x)).alloc (.cells #[.string x] 9)).heap.size = W.heap.size + 1 := by simp [World.setCell]
  have e3 : (W.setCell ⟨w0.heap.size + 3, 0, none⟩ (.string x)).heap.size = W.heap.size := by simp [World.setCell]
  have old : ∀ k, k < w0.heap.size + 7 → w1.heap[k]? = (W.setCell ⟨w0.heap.size + 3, 0, none⟩ (.string x)).heap[k]? := fun k hk => by
    rw [hg.block k (by rw [hsz]; omega) (fun e => by have := hv k e.symm; omega), Below.heap_alloc _ _ _ (by rw [e3]; omega)]
  have keep : ∀ k o, k < w0.heap.size + 7 → k ≠ w0.heap.size + 3 → W.heap[k]? = some o → w1.heap[k]? = some o := fun k o hk h3 ho => by
    rw [old k hk]; exact set_other ho _ h3
  have hb1 : Below w0.heap.size W w1 := ⟨hg.os, hg.tape, hg.output, by have := hg.size; rw [hsz] at this; omega, fun k hk => by rw [old k (by omega)]; exact Below.heap_setCell _ _ _ _ (by simp; omega)⟩
  refine ⟨⟨h.below.trans (hb1.setCell (by simp) _), set_other (keep _ _ (by omega) (by omega) h.res) _ (by omega), set_other (keep _ _ (by omega) (by omega) h.err) _ (by omega), ?_, ?_, set_other (keep _ _ (by omega) (by omega) h.dfr) _ (by omega), set_other (keep _ _ (by omega) (by omega) h.loop) _ (by omega), ?_⟩, ?_⟩
  · refine ⟨v', set_same (keep _ _ (by omega) (by omega) hp) _, ?_⟩
    rw [hk]
    have h9 : w1.ownsRow (w0.heap.size + 7) 9 1 v' (kept pre ++ [x]).length ((kept pre ++ [x]).map .string) := by simpa using ho
    exact own_same h9 (fun g o hg ho => set_other ho _ (by omega))
  · rw [last_app]
    refine set_other ?_ _ (by omega)
    rw [old _ (by omega)]; exact set_same h.last _
  · have := hg.size; rw [hsz] at this
    simp [World.setCell]; omega
  · rw [Below.heap_setCell _ _ _ _ (by simp), old _ (by omega)]
    exact Below.heap_setCell _ _ _ _ (by simp)

theorem p_kept {w0 W w1 : World} {abs dir : Bool} {v : Value} {x : ByteArray} (hp : W.heap[w0.heap.size + 2]? = some (.cells #[.bool abs, v, .bool dir] 115 (0, 0))) (hz : w0.heap.size + 7 ≤ W.heap.size) (hv : ∀ k, v.ownBlock = some k → w0.heap.size + 7 ≤ k)
    (hg : ((W.setCell ⟨w0.heap.size + 3, 0, none⟩ (.string x)).alloc (.cells #[.string x] 9)).grownBy w1 v.ownBlock) :
    w1.cell? ⟨w0.heap.size + 1 + 1, 1, none⟩ = some v ∧ w1.frozen? ⟨w0.heap.size + 1 + 1, 1, none⟩ = false := by
  have e3 : (W.setCell ⟨w0.heap.size + 3, 0, none⟩ (.string x)).heap.size = W.heap.size := by simp [World.setCell]
  have h1 : w1.heap[w0.heap.size + 2]? = some (.cells #[.bool abs, v, .bool dir] 115 (0, 0)) := by
    rw [hg.block _ (by simp [World.setCell]; omega) (fun e => by have := hv _ e.symm; omega), Below.heap_alloc _ _ _ (by rw [e3]; omega)]
    exact set_other hp _ (by omega)
  exact ⟨heap_cell h1 1, heap_free h1 1⟩

theorem end_loop {w0 W : World} {abs dir : Bool} {r : Loop} {xs : List ByteArray} (h : SI w0 abs dir (.loop r) xs W) (hr : r.state = .ready) (hp : r.pending = none) {K : Option Code → World → Prop}
    (hK : ∀ W4, SI w0 abs dir (.loop { r with state := .exhausted }) xs W4 → K none W4) : ∃ jump w₄, (Instr.endLoop (w0.heap.size + 6)).run Try.prog W = .ok jump w₄ ∧ K jump w₄ :=
  ⟨none, _, (run_endLoop h.loop (by rw [hr]; simp)).trans (by rw [hp]), hK _ (h.put _)⟩
theorem last_parts {xs : List ByteArray} {l : List Bytes} (h : xs.map (fun x : ByteArray => x.data.toList) = l) : l.getLast?.getD [] = (lastOf xs).data.toList := by
  rw [← h, List.getLast?_map, lastOf]
  cases xs.getLast? <;> rfl
theorem kept_parts {xs : List ByteArray} {l : List Bytes} (h : xs.map (fun x : ByteArray => x.data.toList) = l) : l.filter (fun x => decide (¬ x = [46])) = (kept xs).map (fun x : ByteArray => x.data.toList) := by
  rw [← h, kept, List.filter_map]; rfl
theorem short_parts {xs : List ByteArray} {l : List Bytes} (h : xs.map (fun x : ByteArray => x.data.toList) = l) (hs : Short xs) : ¬ ∃ x ∈ l, 14 < x.length := by
  rintro ⟨x, hx, hl⟩
  rw [← h] at hx
  obtain ⟨y, hy, rfl⟩ := List.mem_map.1 hx
  have := hs y hy
  rw [sz] at hl; omega
theorem plain_okb (l : Bytes) : plainB l = l.all okb := rfl
theorem split_ok {s : ByteArray} (h0 : ¬ s.data.toList = []) (hs : s.size ≤ 128) {xs : List ByteArray} (h : xs.map (fun x : ByteArray => x.data.toList) = parts s.data.toList) (hsh : Short xs) (hp : plainB s.data.toList = true) :
    splitS s.data.toList = (Lib.hasPrefix s.data.toList [47], Lib.hasSuffix s.data.toList [47] || (((lastOf xs).data.toList == [46]) || ((lastOf xs).data.toList == [46, 46])), (kept xs).map (fun x : ByteArray => x.data.toList), 0) := by
  have e1 : ¬ (128 < s.data.toList.length ∨ ∃ x ∈ parts s.data.toList, 14 < x.length) := by
    rintro (h1 | h1)
    · rw [sz] at h1; omega
    · exact short_parts h hsh h1
  rw [splitS, if_neg h0, if_neg e1, if_neg (by rw [← plain_okb, hp]; simp), last_parts h, kept_parts h]
theorem split_bad {s : ByteArray} (h0 : ¬ s.data.toList = []) (hs : s.size ≤ 128) {xs : List ByteArray} (h : xs.map (fun x : ByteArray => x.data.toList) = parts s.data.toList) (hsh : Short xs) (hp : plainB s.data.toList = false) :
    splitS s.data.toList = (false, false, [], 1) := by
  have e1 : ¬ (128 < s.data.toList.length ∨ ∃ x ∈ parts s.data.toList, 14 < x.length) := by
    rintro (h1 | h1)
    · rw [sz] at h1; omega
    · exact short_parts h hsh h1
  rw [splitS, if_neg h0, if_neg e1, if_pos (by rw [← plain_okb, hp])]
theorem split_long {b : Bytes} (h0 : ¬ b = []) (h : 128 < b.length ∨ ∃ x ∈ parts b, 14 < x.length) : splitS b = (false, false, [], 10) := by
  rw [splitS, if_neg h0, if_pos h]

theorem leave12 {T : Array Value} {W5 : World} (n0 : Nat) {A D : Bool} {V : Value} {E : Int} (hT2 : T[2]? = some (.pointer (some ⟨n0, 0, none⟩))) (hT3 : T[3]? = some (.pointer (some ⟨n0 + 1, 0, none⟩)))
    (hres : W5.heap[n0]? = some (.cells #[.bool A, V, .bool D] 115 (0, 0))) (herr : W5.heap[n0 + 1]? = some (.cells #[.int .i64 E] 30 (0, 0))) (hdfr : W5.heap[n0 + 5]? = some (.deferred (some []))) {R : Ending → World → Prop}
    (hV : ∃ a n c, V = .slice a n c)
    (hR : R (.returned (.tuple #[.agg #[.bool A, V, .bool D], .int .i64 E])) (W5.putObj (n0 + 5) (.deferred none))) :
    bodyPostM Fence.wide 3 Try.prog Try.f74 R .ret { tmps := T, defers := [{ target := .collected (n0 + 5), args := #[] }] } W5 := by
  obtain ⟨a, n, c, rfl⟩ := hV
  refine ⟨by simp, .inl ⟨_, _, rfl, run_takeDeferred hdfr, ?_⟩⟩
  obtain ⟨W6, hW6⟩ : ∃ W6, W5.putObj (n0 + 5) (.deferred none) = W6 := ⟨_, rfl⟩
  have h0 : W6.heap[n0]? = some (.cells #[.bool A, .slice a n c, .bool D] 115 (0, 0)) := by rw [← hW6]; exact (World.putObj_heap_other (by omega)).trans hres
  have h1 : W6.heap[n0 + 1]? = some (.cells #[.int .i64 E] 30 (0, 0)) := by rw [← hW6]; exact (World.putObj_heap_other (by omega)).trans herr
  rw [hW6] at hR ⊢
  have c0 : W6.cell? ⟨n0, 0, none⟩ = some (.bool A) := heap_cell h0 0
  have c1 : W6.cell? ⟨n0, 1, none⟩ = some (.slice a n c) := heap_cell h0 1
  have c2 : W6.cell? ⟨n0, 2, none⟩ = some (.bool D) := heap_cell h0 2
  have c3 : W6.cell? ⟨n0 + 1, 0, none⟩ = some (.int .i64 E) := heap_cell h1 0
  exact ⟨_, by simp [results, Try.results74, go_sem, hT2, hT3, c0, c1, c2, c3], hR⟩

theorem own_base {w : World} {b b' n : Nat} {v : Value} {xs : List Value} (h : w.ownsRow b 9 1 v n xs) (hb : b' ≤ b) : w.ownsRow b' 9 1 v n xs := by
  obtain ⟨h1, h2 | ⟨g, cap, cur, h2, h3, rest⟩⟩ := h
  · exact ⟨h1, .inl h2⟩
  · exact ⟨h1, .inr ⟨g, cap, cur, h2, by omega, rest⟩⟩
/-- The end of Split: the path is told. -/
theorem SI.final {w0 W : World} {s : ByteArray} {abs dir : Bool} {lp : Obj} {xs : List ByteArray} (h : SI w0 abs dir lp xs W) {V : Value} (hV : ∃ a n c, V = .slice a n c) (hown : W.ownsRow (w0.heap.size + 7) 9 1 V (kept xs).length ((kept xs).map .string)) {T : Array Value} (hT2 : T[2]? = some (.pointer (some ⟨w0.heap.size, 0, none⟩))) (hT3 : T[3]? = some (.pointer (some ⟨w0.heap.size + 1, 0, none⟩))) (D : Bool)
    (hs : splitS s.data.toList = (abs, D, (kept xs).map (fun x : ByteArray => x.data.toList), 0)) :
    bodyPostM Fence.wide 3 Try.prog Try.f74 (splitPost s w0) .ret { tmps := T, defers := [{ target := .collected (w0.heap.size + 5), args := #[] }] }
      (((((W.setCell ⟨w0.heap.size + 2, 2, none⟩ (.bool D)).setCell ⟨w0.heap.size, 0, none⟩ (.bool abs)).setCell ⟨w0.heap.size, 1, none⟩ V).setCell ⟨w0.heap.size, 2, none⟩ (.bool D)).setCell ⟨w0.heap.size + 1, 0, none⟩ (.int .i64 0)) := by
  obtain ⟨W5, hW5⟩ : ∃ W5, (((((W.setCell ⟨w0.heap.size + 2, 2, none⟩ (.bool D)).setCell ⟨w0.heap.size, 0, none⟩ (.bool abs)).setCell ⟨w0.heap.size, 1, none⟩ V).setCell ⟨w0.heap.size, 2, none⟩ (.bool D)).setCell ⟨w0.heap.size + 1, 0, none⟩ (.int .i64 0)) = W5 := ⟨_, rfl⟩
  have other : ∀ g o, g ≠ w0.heap.size → g ≠ w0.heap.size + 1 → g ≠ w0.heap.size + 2 → W.heap[g]? = some o → W5.heap[g]? = some o := fun g o n0 n1 n2 ho => by
    rw [← hW5]; exact set_other (set_other (set_other (set_other (set_other ho _ n2) _ n0) _ n0) _ n0) _ n1
  have b5 : Below w0.heap.size W W5 := by rw [← hW5]; exact (((((Below.refl _ _).setCell (by simp) _).setCell (by simp) _).setCell (by simp) _).setCell (by simp) _).setCell (by simp) _
  have r5 : W5.heap[w0.heap.size]? = some (.cells #[.bool abs, V, .bool D] 115 (0, 0)) := by
    rw [← hW5]; exact set_other (set_same (set_same (set_same (set_other h.res _ (by omega)) _) _) _) _ (by omega)
  have e5 : W5.heap[w0.heap.size + 1]? = some (.cells #[.int .i64 0] 30 (0, 0)) := by
    rw [← hW5]; exact set_same (set_other (set_other (set_other (set_other h.err _ (by omega)) _ (by omega)) _ (by omega)) _ (by omega)) _
  rw [hW5]
  refine leave12 w0.heap.size hT2 hT3 r5 e5 (other _ _ (by omega) (by omega) (by omega) h.dfr) hV ⟨abs, D, V, kept xs, 0, rfl, ?_, h.below.trans (b5.trans ⟨rfl, rfl, rfl, by simp, fun k hk => World.putObj_heap_other (by omega)⟩), hs⟩
  exact own_base (own_same hown (fun g o hg ho => (World.putObj_heap_other (by omega)).trans (other g o (by omega) (by omega) (by omega) ho))) (by omega)
/-- The end of Split: an error is told. -/
theorem SI.failed {w0 W : World} {s : ByteArray} {abs dir : Bool} {lp : Obj} {xs : List ByteArray} (h : SI w0 abs dir lp xs W) {T : Array Value} (hT2 : T[2]? = some (.pointer (some ⟨w0.heap.size, 0, none⟩))) (hT3 : T[3]? = some (.pointer (some ⟨w0.heap.size + 1, 0, none⟩)))
    (hs : splitS s.data.toList = (false, false, [], 1)) :
    bodyPostM Fence.wide 3 Try.prog Try.f74 (splitPost s w0) .ret { tmps := T, defers := [{ target := .collected (w0.heap.size + 5), args := #[] }] }
      ((((W.setCell ⟨w0.heap.size, 0, none⟩ (.bool false)).setCell ⟨w0.heap.size, 1, none⟩ (.slice none 0 0)).setCell ⟨w0.heap.size, 2, none⟩ (.bool false)).setCell ⟨w0.heap.size + 1, 0, none⟩ (.int .i64 1)) := by
  obtain ⟨W5, hW5⟩ : ∃ W5, ((((W.setCell ⟨w0.heap.size, 0, none⟩ (.bool false)).setCell ⟨w0.heap.size, 1, none⟩ (.slice none 0 0)).setCell ⟨w0.heap.size, 2, none⟩ (.bool false)).setCell ⟨w0.heap.size + 1, 0, none⟩ (.int .i64 1)) = W5 := ⟨_, rfl⟩
  have b5 : Below w0.heap.size W W5 := by rw [← hW5]; exact ((((Below.refl _ _).setCell (by simp) _).setCell (by simp) _).setCell (by simp) _).setCell (by simp) _
  have r5 : W5.heap[w0.heap.size]? = some (.cells #[.bool false, .slice none 0 0, .bool false] 115 (0, 0)) := by
    rw [← hW5]; exact set_other (set_same (set_same (set_same h.res _) _) _) _ (by omega)
  have e5 : W5.heap[w0.heap.size + 1]? = some (.cells #[.int .i64 1] 30 (0, 0)) := by
    rw [← hW5]; exact set_same (set_other (set_other (set_other h.err _ (by omega)) _ (by omega)) _ (by omega)) _
  have d5 : W5.heap[w0.heap.size + 5]? = some (.deferred (some [])) := by
    rw [← hW5]; exact set_other (set_other (set_other (set_other h.dfr _ (by omega)) _ (by omega)) _ (by omega)) _ (by omega)
  rw [hW5]
  exact leave12 w0.heap.size hT2 hT3 r5 e5 d5 ⟨none, 0, 0, rfl⟩ ⟨false, false, .slice none 0 0, [], 1, rfl, ⟨rfl, .inl ⟨rfl, rfl⟩⟩, h.below.trans (b5.trans ⟨rfl, rfl, rfl, by simp, fun k hk => World.putObj_heap_other (by omega)⟩), hs⟩

set_option maxRecDepth 100000 in
set_option maxHeartbeats 2000000 in
theorem split_main (s : ByteArray) (w : World) (h0 : ¬ s.data.toList = []) (hs : s.size ≤ 128) : Calls Try.prog 74 #[.string s] w (splitPost s w) := by
  refine (callsIn_wide (n := 3)).1 (callsIn_of_wp_marks Try.func74 rfl trivial ?_ rfl)
  simp only [Try.ntmps74, List.size_toArray, List.length_cons, List.length_nil, Nat.reduceAdd, Nat.reduceSub, Array.replicate_succ, Array.replicate_zero, List.push_toArray, List.append_toArray, List.nil_append, List.cons_append]
  have h1 : s.toList.isEmpty = false := by rw [toList_data]; cases hh : s.data.toList with | nil => exact absurd hh h0 | cons => rfl
  have hs1 : (s.size : Int) ≤ 128 := by omega
  have H0 := Lib.hid h0
  obtain ⟨i0, hi, hz0, hz1, hz2⟩ := info_parts info9
  clear h0
  gi_wp2_with fail
  refine ⟨trivial, ?_⟩
  refine (callsIn_wide.2 (Try.strings_HasPrefix _ _ _)).mono ?_
  rintro e w' ⟨rfl, rfl⟩
  gi_wp2_with fail
  refine ⟨trivial, ?_⟩
  refine (callsIn_wide.2 (Try.strings_HasSuffix _ _ _ (by omega))).mono ?_
  rintro e w' ⟨rfl, rfl⟩
  gi_wp2_with fail
  refine ⟨trivial, ?_⟩
  refine (callsIn_wide.2 (mk_names _ _)).mono ?_
  rintro e w' ⟨rfl, rfl⟩
  gi_wp2_with fail
  obtain ⟨W, hW⟩ : ∃ W, (((((w.alloc (.cells #[.bool false, .slice none 0 0, .bool false] 115)).alloc (.cells #[.int .i64 0] 30)).alloc (.cells #[.bool (Lib.hasPrefix s.data.toList [47]), .slice none 0 0, .bool (Lib.hasSuffix s.data.toList [47])] 115)).alloc (.cells #[.string ⟨#[]⟩] 9)).alloc (.cells #[.string s] 9)) = W := ⟨_, rfl⟩
  have hWs : W.heap.size = w.heap.size + 5 := by rw [← hW]; simp
  rw [hW]
  refine range_names W (.pointer (some ⟨w.heap.size + 4, 0, none⟩)) rfl (fun fn => ?_)
  rw [hWs]
  refine (iter_calls w s hs (Lib.hasPrefix s.data.toList [47]) (Lib.hasSuffix s.data.toList [47]) _ ?_ _ ?_ ?_ ?_).mono ?_
  rotate_left
  · rw [← hW]
    have h7 := push7 w.heap
    refine ⟨(((((((Below.refl _ _).alloc (Nat.le_refl _) _).alloc (by simp) _).alloc (by simp; omega) _).alloc (by simp; omega) _).alloc (by simp; omega) _).alloc (by simp; omega) _).alloc (by simp; omega) _, ?_, ?_, ⟨.slice none 0 0, ?_, ⟨rfl, .inl ⟨rfl, rfl⟩⟩⟩, ?_, ?_, ?_, by simp⟩
    · exact (h7 _ _ _ _ _ _ _).1
    · exact (h7 _ _ _ _ _ _ _).2.1
    · exact (h7 _ _ _ _ _ _ _).2.2.1
    · exact (h7 _ _ _ _ _ _ _).2.2.2.1
    · exact (h7 _ _ _ _ _ _ _).2.2.2.2.2.1
    · exact (h7 _ _ _ _ _ _ _).2.2.2.2.2.2
  · rw [← hW]
    exact (push7 w.heap _ _ _ _ _ _ _).2.2.2.2.1
  · intro pre x W2 hSI hsh hx hx1 hlen
    refine roundIn_of_wpIn trivial ?_
    dsimp only
    gi_wp2
    refine begin_round hSI rfl (fun W3 hS3 hb3 => ?_)
    obtain ⟨v, hpv, hown⟩ := hS3.p
    have r0 : W3.cell? ⟨w.heap.size, 0, none⟩ = some (.bool false) := heap_cell hS3.res 0
    have r1 : W3.cell? ⟨w.heap.size, 1, none⟩ = some (.slice none 0 0) := heap_cell hS3.res 1
    have r2 : W3.cell? ⟨w.heap.size, 2, none⟩ = some (.bool false) := heap_cell hS3.res 2
    have rf : ∀ i, W3.frozen? ⟨w.heap.size, i, none⟩ = false := heap_free hS3.res
    have e0 : W3.cell? ⟨w.heap.size + 1, 0, none⟩ = some (.int .i64 0) := heap_cell hS3.err 0
    have ef : W3.frozen? ⟨w.heap.size + 1, 0, none⟩ = false := heap_free hS3.err 0
    have p1 : W3.cell? ⟨w.heap.size + 1 + 1, 1, none⟩ = some v := heap_cell hpv 1
    have pf : W3.frozen? ⟨w.heap.size + 1 + 1, 1, none⟩ = false := heap_free hpv 1
    have l0 : W3.cell? ⟨w.heap.size + 1 + 1 + 1, 0, none⟩ = some (.string (lastOf pre)) := heap_cell hS3.last 0
    have lf : W3.frozen? ⟨w.heap.size + 1 + 1 + 1, 0, none⟩ = false := heap_free hS3.last 0
    have HS := Lib.hid hS3
    have HO := Lib.hid hown
    have HPV := Lib.hid hpv
    have HB3 := Lib.hid hb3
    have HX := Lib.hid hx
    have HSH := Lib.hid hsh
    clear hS3 hown hpv hb3 hx hSI hsh
    by_cases hl : 14 < x.size
    · have hl1 : (14 : Int) < x.size := by omega
      gi_wp2
      exact HS.out.stopped HX.out hl
    · have hl1 : ¬ (14 : Int) < x.size := by omega
      by_cases hd : x.data.toList = [46]
      · have hd1 : x.toList = [46] := by rw [toList_data]; exact hd
        have HD := Lib.hid hd
        clear hd
        gi_wp2
        exact (HS.out.lastSet (kept_no pre x HD.out)).goes rfl rfl (short_app HSH.out hl) ((Below.heap_setCell _ _ _ _ (by simp)).trans HB3.out)
      · have hd1 : (x.toList == [46]) = false := by rw [toList_data]; simpa using hd
        have HD := Lib.hid hd
        clear hd
        have hkl := kept_len pre
        have HO2 := Lib.hid (SI.own2 HO.out x)
        gi_wp2_with (gi_at_builtin; refine wpListIn_append_own _ rfl _ _ 22 rfl (w.heap.size + 7) 9 i0 (.string ByteArray.empty) 1 16 Try.underlying22 hi hz0 hz1 hz2 rfl (by decide) _ _ _ rfl (HO2.out.alloc _) ⟨W3.heap.size, 0, none⟩ 1 1 [.string x] rfl rfl (cell_one_set _ _ _ _) (by simp [Value.oneCell']) (by unfold maxLen; omega) (by omega) (by have := HS.out.size; simp; omega) ?_; intro v' w1 hown' hgrow _; obtain ⟨g', cap', rfl⟩ := ownsRow_succ hown'; have hq := p_kept HPV.out HS.out.size (own_ge HO.out) hgrow; have q1 := hq.1; have qf := hq.2; clear hq)
        obtain ⟨ha, hb⟩ := HS.out.appended (kept_yes pre x HD.out) HPV.out (own_ge HO.out) hgrow hown'
        exact ha.goes rfl rfl (short_app HSH.out hl) (hb.trans HB3.out)
  · rintro e W2 ⟨⟨v0, rfl⟩, (⟨xs, hxs, hSI, hsh⟩ | hstop)⟩
    · refine end_loop hSI rfl rfl (fun W4 hS4 => ?_)
      have HXS := Lib.hid hxs
      have HSH := Lib.hid hsh
      clear hxs hsh hSI W2 hW
      obtain ⟨v, hpv, hown⟩ := hS4.p
      obtain ⟨sa, sl, sc, rfl⟩ : ∃ a n c, v = .slice a n c := by
        obtain ⟨_, ⟨h2, _⟩ | ⟨g, cap, cur, h2, _⟩⟩ := hown
        · exact ⟨_, _, _, h2⟩
        · exact ⟨_, _, _, h2⟩
      have r0 : W4.cell? ⟨w.heap.size, 0, none⟩ = some (.bool false) := heap_cell hS4.res 0
      have r1 : W4.cell? ⟨w.heap.size, 1, none⟩ = some (.slice none 0 0) := heap_cell hS4.res 1
      have r2 : W4.cell? ⟨w.heap.size, 2, none⟩ = some (.bool false) := heap_cell hS4.res 2
      have rf : ∀ i, W4.frozen? ⟨w.heap.size, i, none⟩ = false := heap_free hS4.res
      have e0 : W4.cell? ⟨w.heap.size + 1, 0, none⟩ = some (.int .i64 0) := heap_cell hS4.err 0
      have ef : W4.frozen? ⟨w.heap.size + 1, 0, none⟩ = false := heap_free hS4.err 0
      have p0 : W4.cell? ⟨w.heap.size + 1 + 1, 0, none⟩ = some (.bool (Lib.hasPrefix s.data.toList [47])) := heap_cell hpv 0
      have p1 : W4.cell? ⟨w.heap.size + 1 + 1, 1, none⟩ = some (.slice sa sl sc) := heap_cell hpv 1
      have p2 : W4.cell? ⟨w.heap.size + 1 + 1, 2, none⟩ = some (.bool (Lib.hasSuffix s.data.toList [47])) := heap_cell hpv 2
      have pf : ∀ i, W4.frozen? ⟨w.heap.size + 1 + 1, i, none⟩ = false := heap_free hpv
      have l0 : W4.cell? ⟨w.heap.size + 1 + 1 + 1, 0, none⟩ = some (.string (lastOf xs)) := heap_cell hS4.last 0
      have HS := Lib.hid hS4
      have HO := Lib.hid hown
      have HPV := Lib.hid hpv
      clear hS4 hown hpv
      gi_wp2_with fail
      refine ⟨trivial, ?_⟩
      refine (callsIn_wide.2 (plain_any _ _ (by omega))).mono ?_
      rintro e w' ⟨rfl, rfl⟩
      by_cases hp : plainB s.data.toList = true
      · have HF := Lib.hid (split_ok H0.out hs HXS.out HSH.out hp)
        by_cases hd : Lib.hasSuffix s.data.toList [47] = true
        · have HF2 := Lib.hid (HF.out.trans (by rw [hd]; simp : _ = (Lib.hasPrefix s.data.toList [47], true, (kept xs).map (fun x : ByteArray => x.data.toList), (0 : Int))))
          gi_wp2
          exact HS.out.final ⟨_, _, _, rfl⟩ HO.out rfl rfl true HF2.out
        · replace hd : Lib.hasSuffix s.data.toList [47] = false := by simpa using hd
          by_cases hl1 : (lastOf xs).data.toList = [46]
          · have hm1 : (lastOf xs).toList = [46] := by rw [toList_data]; exact hl1
            have HF2 := Lib.hid (HF.out.trans (by rw [hd, hl1]; simp : _ = (Lib.hasPrefix s.data.toList [47], true, (kept xs).map (fun x : ByteArray => x.data.toList), (0 : Int))))
            clear hl1
            gi_wp2
            exact HS.out.final ⟨_, _, _, rfl⟩ HO.out rfl rfl true HF2.out
          · have hm1 : ((lastOf xs).toList == [46]) = false := by rw [toList_data]; simpa using hl1
            by_cases hl2 : (lastOf xs).data.toList = [46, 46]
            · have hm2 : (lastOf xs).toList = [46, 46] := by rw [toList_data]; exact hl2
              have HF2 := Lib.hid (HF.out.trans (by rw [hd, hl2]; simp : _ = (Lib.hasPrefix s.data.toList [47], true, (kept xs).map (fun x : ByteArray => x.data.toList), (0 : Int))))
              clear hl1 hl2
              gi_wp2
              exact HS.out.final ⟨_, _, _, rfl⟩ HO.out rfl rfl true HF2.out
            · have hm2 : ((lastOf xs).toList == [46, 46]) = false := by rw [toList_data]; simpa using hl2
              have HF2 := Lib.hid (HF.out.trans (by rw [hd]; simp [hl1, hl2] : _ = (Lib.hasPrefix s.data.toList [47], false, (kept xs).map (fun x : ByteArray => x.data.toList), (0 : Int))))
              clear hl1 hl2
              gi_wp2
              exact HS.out.final ⟨_, _, _, rfl⟩ HO.out rfl rfl false HF2.out
      · replace hp : plainB s.data.toList = false := by simpa using hp
        have HF := Lib.hid (split_bad H0.out hs HXS.out HSH.out hp)
        gi_wp2
        exact HS.out.failed rfl rfl HF.out
    · obtain ⟨q1, q2, q3, q4, q5, q6⟩ := hstop
      refine ⟨some .ret, _, run_endLoop q5 (by simp), ?_⟩
      have HF := Lib.hid (split_long H0.out (.inr q6))
      gi_wp2
      exact leave12 w.heap.size rfl rfl ((World.putObj_heap_other (by omega)).trans q2) ((World.putObj_heap_other (by omega)).trans q3) ((World.putObj_heap_other (by omega)).trans q4) ⟨none, 0, 0, rfl⟩ ⟨false, false, .slice none 0 0, [], 10, rfl, ⟨rfl, .inl ⟨rfl, rfl⟩⟩, below_put (below_put q1 (by omega)) (by omega), HF.out⟩
  · rfl
end Go.Proofs.Ytafonmnfeibaiaa.Pp
namespace Go.Proofs.Ytafonmnfeibaiaa.Pp
open Go.RowKit

set_option maxHeartbeats 400000 in
theorem split_any (s : ByteArray) (w : World) : Calls Try.prog 74 #[.string s] w (splitPost s w) := by
  by_cases h0 : s.data.toList = []
  · have h1 : s.toList = [] := by rw [toList_data]; exact h0
    have HF : Hid (splitS s.data.toList = (false, false, [], 3)) := Lib.hid (by rw [splitS, if_pos h0])
    clear h0
    go_enter Try.func74, Try.ntmps74
    go_wp2
    exact bodyPost_ret (v := .tuple #[.agg #[.bool false, .slice none 0 0, .bool false], .int .i64 3]) (by simp [results, Try.results74, go_sem]) rfl ⟨false, false, .slice none 0 0, [], 3, rfl, ⟨rfl, .inl ⟨rfl, rfl⟩⟩, ((Below.refl _ _).alloc (Nat.le_refl _) _).alloc (by simp) _, HF.out⟩
  · by_cases hb : s.size ≤ 128
    · exact split_main s w h0 hb
    · have h1 : s.toList.isEmpty = false := by rw [toList_data]; cases hh : s.data.toList with | nil => exact absurd hh h0 | cons => rfl
      have hb1 : (128 : Int) < s.size := by omega
      have HF : Hid (splitS s.data.toList = (false, false, [], 10)) := Lib.hid (split_long h0 (.inl (by rw [sz]; omega)))
      clear h0
      go_enter Try.func74, Try.ntmps74
      go_wp2
      exact bodyPost_ret (v := .tuple #[.agg #[.bool false, .slice none 0 0, .bool false], .int .i64 10]) (by simp [results, Try.results74, go_sem]) rfl ⟨false, false, .slice none 0 0, [], 10, rfl, ⟨rfl, .inl ⟨rfl, rfl⟩⟩, ((Below.refl _ _).alloc (Nat.le_refl _) _).alloc (by simp) _, HF.out⟩
end Go.Proofs.Ytafonmnfeibaiaa.Pp
/- Right and May, by the program and by the document. -/
namespace Go.Proofs.Ytafonmnfeibaiaa.Md
open Go.RowKit

abbrev Bytes := List UInt8
abbrev big : Nat := 9223372036854775808

theorem and_nat {a b : Nat} (ha : a < big) (hb : b < big) : bits .and .i64 (a : Int) (b : Int) = ((a &&& b : Nat) : Int) :=
  (bits_nat .i64 63 (by decide) (fun n h0 h1 => by rw [IntKind.wrap_i64]; omega) a b (by simpa using ha) (by simpa using hb)).1
theorem or_nat {a b : Nat} (ha : a < big) (hb : b < big) : bits .or .i64 (a : Int) (b : Int) = ((a ||| b : Nat) : Int) :=
  (bits_nat .i64 63 (by decide) (fun n h0 h1 => by rw [IntKind.wrap_i64]; omega) a b (by simpa using ha) (by simpa using hb)).2
theorem andNot_nat {a b : Nat} (ha : a < big) (hb : b < big) : bits .andNot .i64 (a : Int) (b : Int) = ((a &&& (18446744073709551615 - b) : Nat) : Int) := by
  have h1 : (BitVec.ofInt 64 (a : Int)).toNat = a := by rw [BitVec.ofInt_natCast, BitVec.toNat_ofNat]; exact Nat.mod_eq_of_lt (by unfold big at ha; omega)
  have h2 : (BitVec.ofInt 64 (b : Int)).toNat = b := by rw [BitVec.ofInt_natCast, BitVec.toNat_ofNat]; exact Nat.mod_eq_of_lt (by unfold big at hb; omega)
  have h3 : (BitVec.ofInt 64 (a : Int) &&& ~~~(BitVec.ofInt 64 (b : Int))).toNat = a &&& (18446744073709551615 - b) := by
    rw [BitVec.toNat_and, BitVec.toNat_not, h1, h2]
  have h4 : a &&& (18446744073709551615 - b) ≤ a := Nat.and_le_left
  show IntKind.i64.wrap ((BitVec.ofInt 64 (a : Int) &&& ~~~(BitVec.ofInt 64 (b : Int))).toNat : Int) = _
  rw [h3, IntKind.wrap_i64]
  unfold big at ha
  omega
theorem andNot_zero {a b : Nat} (ha : a < big) (hb : b < big) : a &&& (18446744073709551615 - b) = 0 ↔ a &&& b = a := by
  have hbit : ∀ i, (18446744073709551615 - b).testBit i = (decide (i < 64) && !b.testBit i) := fun i => by
    have := Nat.testBit_two_pow_sub_succ (x := b) (n := 64) (by unfold big at hb; omega) i
    rw [← this]
    congr 1
    omega
  have hai : ∀ i, 64 ≤ i → a.testBit i = false := fun i hi => Nat.testBit_lt_two_pow (Nat.lt_of_lt_of_le (show a < 2 ^ 64 by unfold big at ha; omega) (Nat.pow_le_pow_right (by decide) hi))
  constructor
  · intro h
    apply Nat.eq_of_testBit_eq
    intro i
    have hi := congrArg (fun x => x.testBit i) h
    simp only [Nat.testBit_and, hbit, Nat.zero_testBit] at hi
    rw [Nat.testBit_and]
    by_cases h64 : i < 64
    · simp only [h64, decide_true, Bool.true_and] at hi
      cases h1 : a.testBit i <;> cases h2 : b.testBit i <;> simp_all
    · rw [hai i (by omega)]; rfl
  · intro h
    apply Nat.eq_of_testBit_eq
    intro i
    have hi := congrArg (fun x => x.testBit i) h
    simp only [Nat.testBit_and] at hi
    rw [Nat.testBit_and, hbit, Nat.zero_testBit]
    cases h1 : a.testBit i <;> cases h2 : b.testBit i <;> simp_all

/-- A number is a mode. -/
def rightB (m : Int) : Bool := bits .and .i64 m 3071 == m
theorem right_nat {m : Int} (h : rightB m = true) : ∃ n : Nat, m = n ∧ n ≤ 3071 := by
  unfold rightB at h
  rw [beq_iff_eq] at h
  have h2 : (BitVec.ofInt 64 (3071 : Int)).toNat = 3071 := by decide
  have hle : (BitVec.ofInt 64 m &&& BitVec.ofInt 64 (3071 : Int)).toNat ≤ 3071 := by
    rw [BitVec.toNat_and, h2]; exact Nat.and_le_right
  have h3 : bits .and .i64 m 3071 = IntKind.i64.wrap ((BitVec.ofInt 64 m &&& BitVec.ofInt 64 (3071 : Int)).toNat : Int) := rfl
  rw [h3, IntKind.wrap_i64] at h
  exact ⟨(BitVec.ofInt 64 m &&& BitVec.ofInt 64 (3071 : Int)).toNat, by omega, hle⟩
theorem right_iff {n : Nat} (h : n < big) : rightB (n : Int) = true ↔ n &&& 3071 = n := by
  unfold rightB
  have := and_nat (b := 3071) h (by decide)
  rw [show ((3071 : Nat) : Int) = 3071 from rfl] at this
  rw [this, beq_iff_eq]
  omega

theorem right_any (m : Int) (w : World) : Calls Try.prog 36 #[.int .i64 m] w fun e w' => e = .returned (.bool (rightB m)) ∧ w' = w := by
  go_enter Try.func36, Try.ntmps36
  go_wp2
  go_ret
  exact ⟨rfl, rfl⟩
/-- What of a mode counts for somebody. -/
def yS (m : Nat) (owner group uid gid : Int) : Nat := if uid = owner then m / 64 else if gid = group then m / 8 else m
/-- Somebody may, or may not. -/
def mayS (m owner group : Int) (dir : Bool) (uid gid want : Int) : Bool :=
  if rightB m = false ∨ want < 1 ∨ 7 < want then false
  else if uid = 0 then dir || ((want.toNat &&& 1) == 0) || !((m.toNat &&& 73) == 0)
  else (want.toNat &&& yS m.toNat owner group uid gid) == want.toNat

theorem cast_beq (a b : Nat) : ((a : Int) == (b : Int)) = (a == b) := by
  rw [Bool.eq_iff_iff, beq_iff_eq, beq_iff_eq]; omega
theorem zero_beq (a : Nat) : ((a : Int) == 0) = (a == 0) := cast_beq a 0

set_option maxHeartbeats 1000000 in
theorem may_any (m owner group : Int) (dir : Bool) (uid gid want : Int) (w : World) :
    Calls Try.prog 78 #[.int .i64 m, .int .i64 owner, .int .i64 group, .bool dir, .int .i64 uid, .int .i64 gid, .int .i64 want] w fun e w' => e = .returned (.bool (mayS m owner group dir uid gid want)) ∧ w' = w := by
  unfold mayS
  by_cases hr : rightB m = true
  · by_cases h1 : want < 1
    · rw [if_pos (.inr (.inl h1))]
      go_enter Try.func78, Try.ntmps78
      go_wp2_with fail
      refine (right_any _ _).mono ?_
      rintro e w' ⟨he, rfl⟩
      rw [hr] at he
      subst he
      clear hr
      go_wp2
      go_ret
      exact ⟨rfl, rfl⟩
    · by_cases h7 : 7 < want
      · rw [if_pos (.inr (.inr h7))]
        go_enter Try.func78, Try.ntmps78
        go_wp2_with fail
        refine (right_any _ _).mono ?_
        rintro e w' ⟨he, rfl⟩
        rw [hr] at he
        subst he
        clear hr
        go_wp2
        go_ret
        exact ⟨rfl, rfl⟩
      · rw [if_neg (by rw [hr]; simp; omega)]
        obtain ⟨n, rfl, hn⟩ := right_nat hr
        obtain ⟨v, rfl⟩ : ∃ v : Nat, want = v := ⟨want.toNat, by omega⟩
        have a1 : bits .and .i64 (v : Int) 1 = ((v &&& 1 : Nat) : Int) := and_nat (b := 1) (by unfold big; omega) (by decide)
        have a2 : bits .and .i64 (n : Int) 73 = ((n &&& 73 : Nat) : Int) := and_nat (b := 73) (by unfold big; omega) (by decide)
        have a3 : ∀ y : Nat, y < big → (bits .andNot .i64 (v : Int) (y : Int) == 0) = ((v &&& y) == v) := fun y hy => by
          rw [andNot_nat (by unfold big; omega) hy, zero_beq, Bool.eq_iff_iff, beq_iff_eq, beq_iff_eq]
          exact andNot_zero (by unfold big; omega) hy
        rw [Int.toNat_natCast, Int.toNat_natCast]
        by_cases hu : uid = 0
        · rw [if_pos hu]
          subst hu
          have z1 := zero_beq (v &&& 1)
          have z2 := zero_beq (n &&& 73)
          rw [← z1, ← z2]
          clear a3 hn z1 z2
          generalize ((v &&& 1 : Nat) : Int) = x1 at *
          generalize ((n &&& 73 : Nat) : Int) = x2 at *
          go_enter Try.func78, Try.ntmps78
          go_wp2_with fail
          refine (right_any _ _).mono ?_
          rintro e w' ⟨he, rfl⟩
          rw [hr] at he
          subst he
          clear hr
          go_wp2
          all_goals go_ret
          all_goals refine ⟨?_, rfl⟩
          all_goals simp [*, bne]
        · rw [if_neg hu]
          have b0 : (bits .andNot .i64 (v : Int) (n : Int) == 0) = ((v &&& n) == v) := a3 n (by unfold big; omega)
          have b1 : (bits .andNot .i64 (v : Int) ((n : Int) / 64) == 0) = ((v &&& (n / 64)) == v) := by
            rw [show (n : Int) / 64 = ((n / 64 : Nat) : Int) by omega]; exact a3 _ (by unfold big; omega)
          have b2 : (bits .andNot .i64 (v : Int) ((n : Int) / 8) == 0) = ((v &&& (n / 8)) == v) := by
            rw [show (n : Int) / 8 = ((n / 8 : Nat) : Int) by omega]; exact a3 _ (by unfold big; omega)
          unfold yS
          by_cases ho : uid = owner
          · rw [if_pos ho, ← b1]
            clear a1 a2 a3 b0 b1 b2 hn
            subst ho
            go_enter Try.func78, Try.ntmps78
            go_wp2_with fail
            refine (right_any _ _).mono ?_
            rintro e w' ⟨he, rfl⟩
            rw [hr] at he
            subst he
            clear hr
            go_wp2
            go_ret
            exact ⟨rfl, rfl⟩
          · rw [if_neg ho]
            by_cases hg : gid = group
            · rw [if_pos hg, ← b2]
              clear a1 a2 a3 b0 b1 b2 hn
              subst hg
              go_enter Try.func78, Try.ntmps78
              go_wp2_with fail
              refine (right_any _ _).mono ?_
              rintro e w' ⟨he, rfl⟩
              rw [hr] at he
              subst he
              clear hr
              go_wp2
              go_ret
              exact ⟨rfl, rfl⟩
            · rw [if_neg hg, ← b0]
              clear a1 a2 a3 b0 b1 b2 hn
              go_enter Try.func78, Try.ntmps78
              go_wp2_with fail
              refine (right_any _ _).mono ?_
              rintro e w' ⟨he, rfl⟩
              rw [hr] at he
              subst he
              clear hr
              go_wp2
              go_ret
              exact ⟨rfl, rfl⟩
  · have hr2 : rightB m = false := by simpa using hr
    rw [if_pos (.inl hr2)]
    go_enter Try.func78, Try.ntmps78
    go_wp2_with fail
    refine (right_any _ _).mono ?_
    rintro e w' ⟨he, rfl⟩
    rw [hr2] at he
    subst he
    clear hr hr2
    go_wp2
    go_ret
    exact ⟨rfl, rfl⟩

end Go.Proofs.Ytafonmnfeibaiaa.Md
namespace Go.Proofs.Ytafonmnfeibaiaa
open Go.RowKit

/-! ### walk: who asks -/
/-- Who asks. -/
structure Cr where
  real : Int
  eff : Int
  saved : Int
  group : Int
  eg : Int
def ask (t : Nat) (cwd : Int) (c : Cr) : Value := .agg #[.pointer (some ⟨t, 0, none⟩), .int .i64 cwd, .int .i64 c.real, .int .i64 c.eff, .int .i64 c.saved, .int .i64 c.group, .int .i64 c.eg]
def infoV (i k m o g l z y : Int) : Value := .agg #[.int .i64 i, .int .i64 k, .int .i64 m, .int .i64 o, .int .i64 g, .int .i64 l, .int .i64 z, .int .i64 y]
set_option maxHeartbeats 400000 in
theorem wmay_any (t : Nat) (cwd : Int) (c : Cr) (i k m o g l z y want : Int) (w : World) :
    Calls Try.prog 42 #[ask t cwd c, infoV i k m o g l z y, .int .i64 want] w fun e w' => e = .returned (.bool (Md.mayS m o g (decide (k = 1)) c.eff c.eg want)) ∧ Below w.heap.size w w' := by
  obtain ⟨real, eff, saved, group, eg⟩ := c
  unfold ask infoV
  go_enter Try.func42, Try.ntmps42
  go_wp2_with fail
  have e1 : (k == 1) = decide (k = 1) := rfl
  refine (Md.may_any _ _ _ _ _ _ _ _).mono ?_
  rintro e w' ⟨rfl, rfl⟩
  go_wp2
  go_ret
  exact ⟨rfl, ((Below.refl _ _).alloc (Nat.le_refl _) _).alloc (by rw [alloc_size]; omega) _⟩
end Go.Proofs.Ytafonmnfeibaiaa
/- walk, plain: what a path leads to. -/
namespace Go.Proofs.Ytafonmnfeibaiaa
open Go.RowKit

def mayN (m : IT.Nd) (c : Cr) (want : Int) : Bool := Md.mayS m.mode m.owner m.group (decide (m.kind = 1)) c.eff c.eg want
/-- May one go through an inode? -/
def entersE (m : IT.Nd) (c : Cr) : Int := if m.kind ≠ 1 then 6 else if mayN m c 1 = false then 4 else 0
/-- Down by some names: where, and the error. -/
def downT (T : IT.Tr) (c : Cr) : Nat → List IT.Bytes → Nat × Int
  | k, [] => (k, 0)
  | k, n :: l => match T k with
    | none => (0, 3)
    | some m => if entersE m c ≠ 0 then (0, entersE m c) else match lookT T k n with
      | none => (0, 3)
      | some j => downT T c j l
def startT (cwd : Int) (abs : Bool) : Nat := if abs then 1 else cwd.toNat
def goT (T : IT.Tr) (c : Cr) (cwd : Int) (abs : Bool) (l : List IT.Bytes) : Nat × Int := if T (startT cwd abs) = none then (0, 3) else downT T c (startT cwd abs) l
def kindT (T : IT.Tr) (k : Nat) : Int := match T k with
  | none => 0
  | some m => m.kind
def findT (T : IT.Tr) (c : Cr) (cwd : Int) (s : IT.Bytes) : Nat × Int :=
  if (Pp.splitS s).2.2.2 ≠ 0 then (0, (Pp.splitS s).2.2.2)
  else if (goT T c cwd (Pp.splitS s).1 (Pp.splitS s).2.2.1).2 ≠ 0 then (0, (goT T c cwd (Pp.splitS s).1 (Pp.splitS s).2.2.1).2)
  else if (Pp.splitS s).2.1 = true ∧ kindT T (goT T c cwd (Pp.splitS s).1 (Pp.splitS s).2.2.1).1 ≠ 1 then (0, 6)
  else ((goT T c cwd (Pp.splitS s).1 (Pp.splitS s).2.2.1).1, 0)
/-- Where an entry stands, or would. -/
structure Ent where
  dir : Nat
  name : IT.Bytes
  must : Bool
  to : Option Nat
def entryT (T : IT.Tr) (c : Cr) (cwd : Int) (s : IT.Bytes) : Except Int Ent :=
  if (Pp.splitS s).2.2.2 ≠ 0 then .error (Pp.splitS s).2.2.2
  else if (Pp.splitS s).2.2.1 = [] ∨ (Pp.splitS s).2.2.1.getLast? = some [46, 46] then .error 1
  else if (goT T c cwd (Pp.splitS s).1 (Pp.splitS s).2.2.1.dropLast).2 ≠ 0 then .error (goT T c cwd (Pp.splitS s).1 (Pp.splitS s).2.2.1.dropLast).2
  else match T (goT T c cwd (Pp.splitS s).1 (Pp.splitS s).2.2.1.dropLast).1 with
    | none => .error 3
    | some m => if entersE m c ≠ 0 then .error (entersE m c)
      else .ok ⟨(goT T c cwd (Pp.splitS s).1 (Pp.splitS s).2.2.1.dropLast).1, ((Pp.splitS s).2.2.1.getLast?).getD [], (Pp.splitS s).2.1, lookT T (goT T c cwd (Pp.splitS s).1 (Pp.splitS s).2.2.1.dropLast).1 (((Pp.splitS s).2.2.1.getLast?).getD [])⟩

/-! What is looked up is there. -/
theorem look_there {T : IT.Tr} (hs : IT.Sound okN T) {k j : Nat} {nm : IT.Bytes} (h : lookT T k nm = some j) : ∃ m, T j = some m := by
  unfold lookT at h
  cases hk : T k with
  | none => rw [hk] at h; cases h
  | some m =>
    rw [hk] at h
    dsimp only at h
    split at h
    · cases h
    · rename_i hkd
      split at h
      · obtain rfl := Option.some.inj h; exact ⟨m, hk⟩
      · split at h
        · obtain rfl := Option.some.inj h
          obtain ⟨rk, hrk⟩ := hs.1.chain
          by_cases hp : m.parent = k
          · exact ⟨m, by rw [hp]; exact hk⟩
          · obtain ⟨_, m2, hm2, _⟩ := hrk k m hk (Decidable.not_not.1 hkd) hp
            exact ⟨m2, hm2⟩
        · exact hs.1.lead k m (nm, j) hk (IT.find_mem h)
theorem down_there {T : IT.Tr} (hs : IT.Sound okN T) (c : Cr) : ∀ (l : List IT.Bytes) (k : Nat), (∃ m, T k = some m) → (downT T c k l).2 = 0 → ∃ m, T (downT T c k l).1 = some m
  | [], k, h, _ => h
  | n :: l, k, ⟨m, hm⟩, h => by
    unfold downT at h ⊢
    rw [hm] at h ⊢
    dsimp only at h ⊢
    split at h
    · rename_i he; exact absurd h he
    · rename_i he
      rw [if_neg he]
      cases hl : lookT T k n with
      | none => rw [hl] at h; cases h
      | some j =>
        rw [hl] at h
        exact down_there hs c l j (look_there hs hl) h
theorem go_there {T : IT.Tr} (hs : IT.Sound okN T) {c : Cr} {cwd : Int} {abs : Bool} {l : List IT.Bytes} (h : (goT T c cwd abs l).2 = 0) : ∃ m, T (goT T c cwd abs l).1 = some m := by
  unfold goT at h ⊢
  by_cases hk : T (startT cwd abs) = none
  · rw [if_pos hk] at h; cases h
  · rw [if_neg hk] at h ⊢
    refine down_there hs c l _ ?_ h
    cases hm : T (startT cwd abs) with
    | none => exact absurd hm hk
    | some m => exact ⟨m, rfl⟩
theorem find_there {T : IT.Tr} (hs : IT.Sound okN T) {c : Cr} {cwd : Int} {s : IT.Bytes} (h : (findT T c cwd s).2 = 0) : ∃ m, T (findT T c cwd s).1 = some m := by
  unfold findT at h ⊢
  split at h
  · rename_i he; exact absurd h he
  · split at h
    · rename_i he; exact absurd h he
    · rename_i h1 h2
      split at h
      · cases h
      · rename_i h3
        rw [if_neg h1, if_neg h2, if_neg h3]
        exact go_there hs (Decidable.not_not.1 h2)
end Go.Proofs.Ytafonmnfeibaiaa
namespace Go.Proofs.Ytafonmnfeibaiaa
open Go.RowKit

set_option maxHeartbeats 400000 in
theorem wenters_any (t : Nat) (cwd : Int) (c : Cr) (i k m o g l z y : Int) (w : World) :
    Calls Try.prog 76 #[ask t cwd c, infoV i k m o g l z y] w fun e w' => ∃ r : Int, e = .returned (.int .i64 r) ∧ r = (if k ≠ 1 then 6 else if Md.mayS m o g (decide (k = 1)) c.eff c.eg 1 = false then 4 else 0) ∧ Below w.heap.size w w' := by
  obtain ⟨real, eff, saved, group, eg⟩ := c
  by_cases hk : k = 1
  · subst hk
    rw [if_neg (fun hh => hh rfl)]
    have hm := wmay_any t cwd ⟨real, eff, saved, group, eg⟩ i 1 m o g l z y 1
    generalize hM : Md.mayS m o g (decide ((1 : Int) = 1)) eff eg 1 = M at *
    have HM : Hid (∀ w : World, Calls Try.prog 42 #[ask t cwd ⟨real, eff, saved, group, eg⟩, infoV i 1 m o g l z y, .int .i64 1] w fun e w' => e = .returned (.bool M) ∧ Below w.heap.size w w') := Lib.hid (fun w => hm w)
    clear hM hm
    cases M with
    | true =>
      unfold ask infoV
      go_enter Try.func76, Try.ntmps76
      go_wp2_with fail
      refine (HM.out _).mono ?_
      rintro e w' ⟨rfl, hb⟩
      have HB := Lib.hid hb
      clear hb
      go_wp2
      go_ret
      exact ⟨0, rfl, rfl, (((Below.refl _ _).alloc (Nat.le_refl _) _).alloc (by rw [alloc_size]; omega) _).trans (HB.out.mono (by rw [alloc_size, alloc_size]; omega))⟩
    | false =>
      unfold ask infoV
      go_enter Try.func76, Try.ntmps76
      go_wp2_with fail
      refine (HM.out _).mono ?_
      rintro e w' ⟨rfl, hb⟩
      have HB := Lib.hid hb
      clear hb
      go_wp2
      go_ret
      exact ⟨4, rfl, rfl, (((Below.refl _ _).alloc (Nat.le_refl _) _).alloc (by rw [alloc_size]; omega) _).trans (HB.out.mono (by rw [alloc_size, alloc_size]; omega))⟩
  · rw [if_pos hk]
    have hk1 : (k != 1) = true := by simpa using hk
    clear hk
    unfold ask infoV
    go_enter Try.func76, Try.ntmps76
    go_wp2
    go_ret
    exact ⟨6, rfl, rfl, ((Below.refl _ _).alloc (Nat.le_refl _) _).alloc (by rw [alloc_size]; omega) _⟩
theorem stat_infoV {T : IT.Tr} {k : Nat} {m : IT.Nd} (h : T k = some m) : statV T k = infoV k m.kind m.mode m.owner m.group (IT.lnk T k : Nat) (m.data.length + m.names.length : Nat) m.tty := by
  unfold statV; rw [h]; rfl

/-- A row of names that may be read. -/
def Row (w : World) (a : Option Addr) (l : List ByteArray) : Prop := ∀ j (h : j < l.length), ∃ b off, a = some ⟨b, off, none⟩ ∧ b < w.heap.size ∧ w.cell? ⟨b, off + j, none⟩ = some (.string l[j])
def askC (t : Nat) (cwd : Int) (c : Cr) : Array Value := #[.pointer (some ⟨t, 0, none⟩), .int .i64 cwd, .int .i64 c.real, .int .i64 c.eff, .int .i64 c.saved, .int .i64 c.group, .int .i64 c.eg]
def infC (T : IT.Tr) (k : Nat) (m : IT.Nd) : Array Value := #[.int .i64 k, .int .i64 m.kind, .int .i64 m.mode, .int .i64 m.owner, .int .i64 m.group, .int .i64 (IT.lnk T k : Nat), .int .i64 (m.data.length + m.names.length : Nat), .int .i64 m.tty]
def zeroC : Array Value := #[.int .i64 0, .int .i64 0, .int .i64 0, .int .i64 0, .int .i64 0, .int .i64 0, .int .i64 0, .int .i64 0]
/-- What down holds while it goes: the asker at B, the result at R, where it stands at X. -/
structure DI (w : World) (t : Nat) (cwd : Int) (c : Cr) (T : IT.Tr) (B R X k : Nat) (m : IT.Nd) (wr : World) : Prop where
  below : Below w.heap.size w wr
  a : wr.heap[B]? = some (.cells (askC t cwd c) 74 (0, 0))
  r : wr.heap[R]? = some (.cells zeroC 35 (0, 0))
  x : wr.heap[X]? = some (.cells (infC T k m) 35 (0, 0))
  at_ : T k = some m
section
variable {w wr wr' : World} {t : Nat} {cwd : Int} {c : Cr} {T : IT.Tr} {B R X k : Nat} {m : IT.Nd}
theorem DI.turn (h : DI w t cwd c T B R X k m wr) (g : Below wr.heap.size wr wr') : DI w t cwd c T B R X k m wr' :=
  ⟨h.below.trans (g.mono h.below.size), (g.block _ (lt_of_heap h.a)).trans h.a, (g.block _ (lt_of_heap h.r)).trans h.r, (g.block _ (lt_of_heap h.x)).trans h.x, h.at_⟩
theorem DI.ca (h : DI w t cwd c T B R X k m wr) (i : Nat) : wr.cell? ⟨B, i, none⟩ = (askC t cwd c)[i]? := cell_of h.a i
theorem DI.cr (h : DI w t cwd c T B R X k m wr) (i : Nat) : wr.cell? ⟨R, i, none⟩ = zeroC[i]? := cell_of h.r i
theorem DI.cx (h : DI w t cwd c T B R X k m wr) (i : Nat) : wr.cell? ⟨X, i, none⟩ = (infC T k m)[i]? := cell_of h.x i
theorem DI.fr (h : DI w t cwd c T B R X k m wr) (i : Nat) : wr.frozen? ⟨R, i, none⟩ = false := frozen_of h.r i
theorem DI.fx (h : DI w t cwd c T B R X k m wr) (i : Nat) : wr.frozen? ⟨X, i, none⟩ = false := frozen_of h.x i
end


/-! Eight cells stored, one after another. -/
theorem arr_set8 {α : Type} (u0 u1 u2 u3 u4 u5 u6 u7 v0 v1 v2 v3 v4 v5 v6 v7 : α) : (((((((((#[u0, u1, u2, u3, u4, u5, u6, u7] : Array α).setIfInBounds 0 v0).setIfInBounds 1 v1).setIfInBounds 2 v2).setIfInBounds 3 v3).setIfInBounds 4 v4).setIfInBounds 5 v5).setIfInBounds 6 v6).setIfInBounds 7 v7) = #[v0, v1, v2, v3, v4, v5, v6, v7] := by
  apply Array.ext'
  simp

section
variable {W : World} {R : Nat} {T : TypeId} {f : Nat × Nat} {v0 v1 v2 v3 v4 v5 v6 v7 u0 u1 u2 u3 u4 u5 u6 u7 : Value}
theorem heap_set8 (h : W.heap[R]? = some (.cells #[u0, u1, u2, u3, u4, u5, u6, u7] T f)) : ((((((((W.setCell ⟨R, 0, none⟩ v0).setCell ⟨R, 1, none⟩ v1).setCell ⟨R, 2, none⟩ v2).setCell ⟨R, 3, none⟩ v3).setCell ⟨R, 4, none⟩ v4).setCell ⟨R, 5, none⟩ v5).setCell ⟨R, 6, none⟩ v6).setCell ⟨R, 7, none⟩ v7).heap[R]? = some (.cells #[v0, v1, v2, v3, v4, v5, v6, v7] T f) := by
  have h0 := heap_setCell_same (i := 0) h v0
  have h1 := heap_setCell_same (i := 1) h0 v1
  have h2 := heap_setCell_same (i := 2) h1 v2
  have h3 := heap_setCell_same (i := 3) h2 v3
  have h4 := heap_setCell_same (i := 4) h3 v4
  have h5 := heap_setCell_same (i := 5) h4 v5
  have h6 := heap_setCell_same (i := 6) h5 v6
  have h7 := heap_setCell_same (i := 7) h6 v7
  rw [arr_set8] at h7
  exact h7
theorem heap_set8_other {b : Nat} (hb : b ≠ R) : ((((((((W.setCell ⟨R, 0, none⟩ v0).setCell ⟨R, 1, none⟩ v1).setCell ⟨R, 2, none⟩ v2).setCell ⟨R, 3, none⟩ v3).setCell ⟨R, 4, none⟩ v4).setCell ⟨R, 5, none⟩ v5).setCell ⟨R, 6, none⟩ v6).setCell ⟨R, 7, none⟩ v7).heap[b]? = W.heap[b]? := by
  rw [Below.heap_setCell _ _ _ _ hb, Below.heap_setCell _ _ _ _ hb, Below.heap_setCell _ _ _ _ hb, Below.heap_setCell _ _ _ _ hb, Below.heap_setCell _ _ _ _ hb, Below.heap_setCell _ _ _ _ hb, Below.heap_setCell _ _ _ _ hb, Below.heap_setCell _ _ _ _ hb]
theorem below_set8 {n : Nat} {w : World} (h : Below n w W) (hn : n ≤ R) : Below n w ((((((((W.setCell ⟨R, 0, none⟩ v0).setCell ⟨R, 1, none⟩ v1).setCell ⟨R, 2, none⟩ v2).setCell ⟨R, 3, none⟩ v3).setCell ⟨R, 4, none⟩ v4).setCell ⟨R, 5, none⟩ v5).setCell ⟨R, 6, none⟩ v6).setCell ⟨R, 7, none⟩ v7) :=
  (((((((h.setCell hn _).setCell hn _).setCell hn _).setCell hn _).setCell hn _).setCell hn _).setCell hn _).setCell hn _
end
theorem ret_info {fn : Func} {tmps : Array Value} {W : World} {R : Nat} {p u : Tmp} {v0 v1 v2 v3 v4 v5 v6 v7 : Value} (hres : fn.results = #[.cell p 35, .tmp u]) (hp : tmps.getD p undef = .pointer (some ⟨R, 0, none⟩))
    (hR : W.heap[R]? = some (.cells #[v0, v1, v2, v3, v4, v5, v6, v7] 35 (0, 0))) : (results fn tmps).run Try.prog W = .ok (.tuple #[.agg #[v0, v1, v2, v3, v4, v5, v6, v7], tmps.getD u undef]) W := by
  rw [results_cell_tmp hres, hp]
  have c0 : W.cell? ⟨R, 0, none⟩ = some v0 := cell_of hR 0
  have c1 : W.cell? ⟨R, 1, none⟩ = some v1 := cell_of hR 1
  have c2 : W.cell? ⟨R, 2, none⟩ = some v2 := cell_of hR 2
  have c3 : W.cell? ⟨R, 3, none⟩ = some v3 := cell_of hR 3
  have c4 : W.cell? ⟨R, 4, none⟩ = some v4 := cell_of hR 4
  have c5 : W.cell? ⟨R, 5, none⟩ = some v5 := cell_of hR 5
  have c6 : W.cell? ⟨R, 6, none⟩ = some v6 := cell_of hR 6
  have c7 : W.cell? ⟨R, 7, none⟩ = some v7 := cell_of hR 7
  simp [go_sem, c0, c1, c2, c3, c4, c5, c6, c7, Try.isAgg35, Try.sizeOf35]
end Go.Proofs.Ytafonmnfeibaiaa
namespace Go.Proofs.Ytafonmnfeibaiaa
open Go.RowKit

def DownPost (T : IT.Tr) (c : Cr) (cwd : Int) (abs : Bool) (l : List ByteArray) (w : World) (e : Ending) (w' : World) : Prop :=
  ∃ v : Value, e = .returned (.tuple #[v, .int .i64 (goT T c cwd abs (l.map bs)).2]) ∧ v = (if (goT T c cwd abs (l.map bs)).2 = 0 then statV T (goT T c cwd abs (l.map bs)).1 else noInfo) ∧ Below w.heap.size w w'
theorem downPost_err {T : IT.Tr} {c : Cr} {cwd : Int} {abs : Bool} {l : List ByteArray} {w w' : World} {k : Nat} {r : Int} (h : goT T c cwd abs (l.map bs) = (k, r)) (hr : r ≠ 0) (hb : Below w.heap.size w w') : DownPost T c cwd abs l w (.returned (.tuple #[noInfo, .int .i64 r])) w' := by
  unfold DownPost
  rw [h]
  exact ⟨_, rfl, by rw [if_neg hr], hb⟩
theorem downPost_ok {T : IT.Tr} {c : Cr} {cwd : Int} {abs : Bool} {l : List ByteArray} {w w' : World} {k : Nat} {v : Value} (h : goT T c cwd abs (l.map bs) = (k, 0)) (hv : v = statV T k) (hb : Below w.heap.size w w') : DownPost T c cwd abs l w (.returned (.tuple #[v, .int .i64 0])) w' := by
  unfold DownPost
  rw [h]
  exact ⟨_, rfl, by rw [if_pos rfl]; exact hv, hb⟩
theorem drop_map {l : List ByteArray} {j : Nat} (h : j < l.length) : (l.drop j).map bs = bs l[j] :: (l.drop (j + 1)).map bs := by
  rw [List.drop_eq_getElem_cons h, List.map_cons]
theorem DI.store {w W : World} {t : Nat} {cwd : Int} {c : Cr} {T : IT.Tr} {B R X k k2 : Nat} {m m2 : IT.Nd} (h : DI w t cwd c T B R X k m W) (hm : T k2 = some m2) (hb : B ≠ X) (hr : R ≠ X) (hx : w.heap.size ≤ X) : DI w t cwd c T B R X k2 m2 ((((((((W.setCell ⟨X, 0, none⟩ (.int .i64 k2)).setCell ⟨X, 1, none⟩ (.int .i64 m2.kind)).setCell ⟨X, 2, none⟩ (.int .i64 m2.mode)).setCell ⟨X, 3, none⟩ (.int .i64 m2.owner)).setCell ⟨X, 4, none⟩ (.int .i64 m2.group)).setCell ⟨X, 5, none⟩ (.int .i64 (IT.lnk T k2 : Nat))).setCell ⟨X, 6, none⟩ (.int .i64 (m2.data.length + m2.names.length : Nat))).setCell ⟨X, 7, none⟩ (.int .i64 m2.tty)) :=
  ⟨below_set8 h.below hx, (heap_set8_other hb).trans h.a, (heap_set8_other hr).trans h.r, heap_set8 h.x, hm⟩
theorem down_step {T : IT.Tr} {c : Cr} {k : Nat} {m : IT.Nd} {n : IT.Bytes} (h : T k = some m) (he : entersE m c = 0) (L : List IT.Bytes) : downT T c k (n :: L) = match lookT T k n with
    | none => (0, 3)
    | some j => downT T c j L := by
  conv => lhs; unfold downT
  rw [h]
  dsimp only
  rw [if_neg (fun e => e he)]
  all_goals (cases lookT T k n <;> rfl)
theorem belowA {w W : World} (h : Below w.heap.size w W) (o : Obj) : Below w.heap.size w (W.alloc o) := h.alloc h.size o
theorem stat_eq {T : IT.Tr} {k : Nat} {m : IT.Nd} (h : T k = some m) : .agg (infC T k m) = statV T k := by rw [stat_infoV h]; rfl
set_option maxRecDepth 100000 in
set_option maxHeartbeats 4000000 in
theorem wdown_root {w : World} {t : Nat} {S : Tab} {T : IT.Tr} (h : Tre w t S T) (cwd : Int) (c : Cr) (a : Option Addr) (cap : Nat) (l : List ByteArray) (hrow : Row w a l) (hl : l.length ≤ maxLen) :
    Calls Try.prog 75 #[ask t cwd c, .bool true, .slice a l.length cap] w (DownPost T c cwd true l w) := by
  have HR := Lib.hid hrow
  have H := Lib.hid h
  unfold maxLen at hl
  have h2t := h.mv ((Mv.refl h.rep).alloc (.cells (askC t cwd c) 74))
  have h3t := h2t.mv ((Mv.refl h2t.rep).alloc (.cells zeroC 35))
  have h3 := stat_any h3t 1
  have hzr : ((w.alloc (.cells (askC t cwd c) 74)).alloc (.cells zeroC 35)).heap[w.heap.size + 1]? = some (.cells zeroC 35 (0, 0)) := by
    have := alloc_heap (w.alloc (Obj.cells (askC t cwd c) 74)) (Obj.cells zeroC 35)
    rw [alloc_size] at this
    exact this
  have hza : ((w.alloc (.cells (askC t cwd c) 74)).alloc (.cells zeroC 35)).heap[w.heap.size]? = some (.cells (askC t cwd c) 74 (0, 0)) := by
    rw [alloc_heap_old _ _ (by rw [alloc_size]; omega), alloc_heap]
  have hzb : Below w.heap.size w ((w.alloc (.cells (askC t cwd c) 74)).alloc (.cells zeroC 35)) := ((Below.refl _ _).alloc (Nat.le_refl _) _).alloc (by rw [alloc_size]; omega) _
  have hzs : ((w.alloc (.cells (askC t cwd c) 74)).alloc (.cells zeroC 35)).heap.size = w.heap.size + 1 + 1 := by rw [alloc_size, alloc_size]
  have HZ := Lib.hid (And.intro hzr (And.intro hza (And.intro hzb hzs)))
  clear h hrow h2t h3t hzr hza hzb hzs
  cases hT : T (startT cwd true) with
  | none =>
    have HG : Hid (goT T c cwd true (l.map bs) = (0, 3)) := Lib.hid (by unfold goT; rw [if_pos hT])
    have HC : Hid (Calls Try.prog 14 #[.pointer (some ⟨t, 0, none⟩), .int .i64 1] ((w.alloc (.cells (askC t cwd c) 74)).alloc (.cells zeroC 35)) fun e w' => e = .returned (.tuple #[.agg #[.int .i64 0, .int .i64 0, .int .i64 0, .int .i64 0, .int .i64 0, .int .i64 0, .int .i64 0, .int .i64 0], .bool false]) ∧ Below ((w.alloc (.cells (askC t cwd c) 74)).alloc (.cells zeroC 35)).heap.size ((w.alloc (.cells (askC t cwd c) 74)).alloc (.cells zeroC 35)) w') := Lib.hid (h3.mono (by
      rintro e w' ⟨rfl, hb⟩
      have hT' : T (1 : Int).toNat = none := hT
      refine ⟨by unfold statV; rw [hT']; rfl, hb⟩))
    clear h3 hT
    unfold ask
    go_enter Try.func75, Try.ntmps75
    go_wp2_with fail
    refine HC.out.mono ?_
    rintro e w1 ⟨rfl, hb⟩
    have HB := Lib.hid hb
    have hs : w.heap.size + 1 + 1 ≤ w1.heap.size := by have := hb.size; rwa [HZ.out.2.2.2] at this
    have hr : w1.heap[w.heap.size + 1]? = some (.cells zeroC 35 (0, 0)) := by
      rw [hb.block _ (by rw [HZ.out.2.2.2]; omega)]; exact HZ.out.1
    have r0 : w1.cell? ⟨w.heap.size + 1, 0, none⟩ = some (.int .i64 0) := cell_of hr 0
    have f0 : w1.frozen? ⟨w.heap.size + 1, 0, none⟩ = false := frozen_of hr 0
    have r1 : w1.cell? ⟨w.heap.size + 1, 1, none⟩ = some (.int .i64 0) := cell_of hr 1
    have f1 : w1.frozen? ⟨w.heap.size + 1, 1, none⟩ = false := frozen_of hr 1
    have r2 : w1.cell? ⟨w.heap.size + 1, 2, none⟩ = some (.int .i64 0) := cell_of hr 2
    have f2 : w1.frozen? ⟨w.heap.size + 1, 2, none⟩ = false := frozen_of hr 2
    have r3 : w1.cell? ⟨w.heap.size + 1, 3, none⟩ = some (.int .i64 0) := cell_of hr 3
    have f3 : w1.frozen? ⟨w.heap.size + 1, 3, none⟩ = false := frozen_of hr 3
    have r4 : w1.cell? ⟨w.heap.size + 1, 4, none⟩ = some (.int .i64 0) := cell_of hr 4
    have f4 : w1.frozen? ⟨w.heap.size + 1, 4, none⟩ = false := frozen_of hr 4
    have r5 : w1.cell? ⟨w.heap.size + 1, 5, none⟩ = some (.int .i64 0) := cell_of hr 5
    have f5 : w1.frozen? ⟨w.heap.size + 1, 5, none⟩ = false := frozen_of hr 5
    have r6 : w1.cell? ⟨w.heap.size + 1, 6, none⟩ = some (.int .i64 0) := cell_of hr 6
    have f6 : w1.frozen? ⟨w.heap.size + 1, 6, none⟩ = false := frozen_of hr 6
    have r7 : w1.cell? ⟨w.heap.size + 1, 7, none⟩ = some (.int .i64 0) := cell_of hr 7
    have f7 : w1.frozen? ⟨w.heap.size + 1, 7, none⟩ = false := frozen_of hr 7
    have hs1 : w.heap.size + 1 < w1.heap.size := by omega
    have hs2 : w.heap.size < w1.heap.size := by omega
    have HRR := Lib.hid hr
    clear hb hr hs
    go_wp2
    refine bodyPost_ret (ret_info rfl rfl ((alloc_heap_old _ _ (by simpa [World.setCell] using hs1)).trans (heap_set8 HRR.out))) rfl ?_
    exact downPost_err HG.out (by decide) (belowA (below_set8 (HZ.out.2.2.1.trans (HB.out.mono (by rw [HZ.out.2.2.2]; omega))) (by omega)) _)
  | some m0 =>
    have HC : Hid (Calls Try.prog 14 #[.pointer (some ⟨t, 0, none⟩), .int .i64 1] ((w.alloc (.cells (askC t cwd c) 74)).alloc (.cells zeroC 35)) fun e w' => e = .returned (.tuple #[.agg (infC T (startT cwd true) m0), .bool true]) ∧ Below ((w.alloc (.cells (askC t cwd c) 74)).alloc (.cells zeroC 35)).heap.size ((w.alloc (.cells (askC t cwd c) 74)).alloc (.cells zeroC 35)) w') := Lib.hid (h3.mono (by
      rintro e w' ⟨rfl, hb⟩
      have hT' : T (1 : Int).toNat = some m0 := hT
      refine ⟨by unfold statV; rw [hT']; rfl, hb⟩))
    have HG : Hid (goT T c cwd true (l.map bs) = downT T c (startT cwd true) (l.map bs)) := Lib.hid (by unfold goT; rw [if_neg (by rw [hT]; intro e; cases e)])
    have HT := Lib.hid hT
    obtain ⟨k0, hk0⟩ : ∃ k0, k0 = startT cwd true := ⟨_, rfl⟩
    rw [← hk0] at HC HG HT
    clear h3 hT hk0
    unfold infC at HC
    unfold ask
    go_enter Try.func75, Try.ntmps75
    go_wp2_with fail
    refine HC.out.mono ?_
    rintro e w1 ⟨rfl, hb⟩
    have HD : Hid (DI w t cwd c T w.heap.size (w.heap.size + 1) w1.heap.size k0 m0 (w1.alloc (.cells (infC T k0 m0) 35))) := Lib.hid (by
      have hs := hb.size
      rw [HZ.out.2.2.2] at hs
      refine ⟨(HZ.out.2.2.1.trans (hb.mono (by rw [HZ.out.2.2.2]; omega))).alloc (by omega) _, ?_, ?_, alloc_heap _ _, HT.out⟩
      · rw [alloc_heap_old _ _ (by omega), hb.block _ (by rw [HZ.out.2.2.2]; omega)]; exact HZ.out.2.1
      · rw [alloc_heap_old _ _ (by omega), hb.block _ (by rw [HZ.out.2.2.2]; omega)]; exact HZ.out.1)
    have HS1 : Hid (w.heap.size + 1 < w1.heap.size) := Lib.hid (by have hs := hb.size; rw [HZ.out.2.2.2] at hs; omega)
    have HSz : Hid (w1.heap.size < (w1.alloc (.cells (infC T k0 m0) 35)).heap.size) := Lib.hid (by rw [alloc_size]; omega)
    clear hb HC
    go_wp2_with fail
    go_loopw [31] (fun iv wr => ∃ (j k : Nat) (m : IT.Nd), iv = .int .i64 j ∧ j ≤ l.length ∧ DI w t cwd c T w.heap.size (w.heap.size + 1) w1.heap.size k m wr ∧ downT T c k0 (l.map bs) = downT T c k ((l.drop j).map bs)) (fun iv _ => l.length - (intOf iv).toNat)
    case atStart => exact ⟨0, k0, m0, rfl, Nat.zero_le _, HD.out, rfl⟩
    case round =>
      clear HD
      obtain ⟨j, k, m, rfl, hj, hd, heq⟩ := hrel
      have HDI := Lib.hid hd
      have HQ := Lib.hid heq
      have a0 : wr.cell? ⟨w.heap.size, 0, none⟩ = some (.pointer (some ⟨t, 0, none⟩)) := hd.ca 0
      have a1 : wr.cell? ⟨w.heap.size, 1, none⟩ = some (.int .i64 cwd) := hd.ca 1
      have a2 : wr.cell? ⟨w.heap.size, 2, none⟩ = some (.int .i64 c.real) := hd.ca 2
      have a3 : wr.cell? ⟨w.heap.size, 3, none⟩ = some (.int .i64 c.eff) := hd.ca 3
      have a4 : wr.cell? ⟨w.heap.size, 4, none⟩ = some (.int .i64 c.saved) := hd.ca 4
      have a5 : wr.cell? ⟨w.heap.size, 5, none⟩ = some (.int .i64 c.group) := hd.ca 5
      have a6 : wr.cell? ⟨w.heap.size, 6, none⟩ = some (.int .i64 c.eg) := hd.ca 6
      have x0 : wr.cell? ⟨w1.heap.size, 0, none⟩ = some (.int .i64 (k : Int)) := hd.cx 0
      have x1 : wr.cell? ⟨w1.heap.size, 1, none⟩ = some (.int .i64 m.kind) := hd.cx 1
      have x2 : wr.cell? ⟨w1.heap.size, 2, none⟩ = some (.int .i64 m.mode) := hd.cx 2
      have x3 : wr.cell? ⟨w1.heap.size, 3, none⟩ = some (.int .i64 m.owner) := hd.cx 3
      have x4 : wr.cell? ⟨w1.heap.size, 4, none⟩ = some (.int .i64 m.group) := hd.cx 4
      have x5 : wr.cell? ⟨w1.heap.size, 5, none⟩ = some (.int .i64 (IT.lnk T k : Nat)) := hd.cx 5
      have x6 : wr.cell? ⟨w1.heap.size, 6, none⟩ = some (.int .i64 (m.data.length + m.names.length : Nat)) := hd.cx 6
      have x7 : wr.cell? ⟨w1.heap.size, 7, none⟩ = some (.int .i64 m.tty) := hd.cx 7
      by_cases hlt : j < l.length
      · obtain ⟨nb, no, rfl, hnb, hnc⟩ := HR.out j hlt
        have hn : wr.cell? ⟨nb, no + j, none⟩ = some (.string l[j]) := by rw [hd.below.cell (p := ⟨nb, no + j, none⟩) hnb]; exact hnc
        have hlt1 : (j : Int) < l.length := by omega
        have HN := Lib.hid (drop_map hlt)
        have HTre := Lib.hid (H.out.mv ((Mv.refl H.out.rep).below hd.below))
        clear hd heq hnc
        generalize hnm : l[j] = nm at *
        clear hnm
        go_wp2_with fail
        refine (wenters_any t cwd c _ _ _ _ _ _ _ _ _).mono ?_
        rintro e w2 ⟨r, rfl, hr, hb⟩
        have HD2 := Lib.hid (HDI.out.turn hb)
        have hd := HD2.out
        have HR2 : Hid (r = entersE m c) := Lib.hid hr
        clear hr a0 a1 a2 a3 a4 a5 a6 x0 x1 x2 x3 x4 x5 x6 x7 hn
        by_cases hz : r = 0
        · obtain rfl : r = 0 := hz
          have a0 : w2.cell? ⟨w.heap.size, 0, none⟩ = some (.pointer (some ⟨t, 0, none⟩)) := hd.ca 0
          have x0 : w2.cell? ⟨w1.heap.size, 0, none⟩ = some (.int .i64 (k : Int)) := hd.cx 0
          have HT2 := Lib.hid (HTre.out.mv ((Mv.refl HTre.out.rep).below hb))
          have HE0 := Lib.hid (down_step (T := T) (c := c) (n := bs nm) HDI.out.at_ HR2.out.symm)
          cases hlk : lookT T k (bs nm) with
          | none =>
            have r0 : w2.cell? ⟨w.heap.size + 1, 0, none⟩ = some (.int .i64 0) := hd.cr 0
            have f0 : w2.frozen? ⟨w.heap.size + 1, 0, none⟩ = false := hd.fr 0
            have r1 : w2.cell? ⟨w.heap.size + 1, 1, none⟩ = some (.int .i64 0) := hd.cr 1
            have f1 : w2.frozen? ⟨w.heap.size + 1, 1, none⟩ = false := hd.fr 1
            have r2 : w2.cell? ⟨w.heap.size + 1, 2, none⟩ = some (.int .i64 0) := hd.cr 2
            have f2 : w2.frozen? ⟨w.heap.size + 1, 2, none⟩ = false := hd.fr 2
            have r3 : w2.cell? ⟨w.heap.size + 1, 3, none⟩ = some (.int .i64 0) := hd.cr 3
            have f3 : w2.frozen? ⟨w.heap.size + 1, 3, none⟩ = false := hd.fr 3
            have r4 : w2.cell? ⟨w.heap.size + 1, 4, none⟩ = some (.int .i64 0) := hd.cr 4
            have f4 : w2.frozen? ⟨w.heap.size + 1, 4, none⟩ = false := hd.fr 4
            have r5 : w2.cell? ⟨w.heap.size + 1, 5, none⟩ = some (.int .i64 0) := hd.cr 5
            have f5 : w2.frozen? ⟨w.heap.size + 1, 5, none⟩ = false := hd.fr 5
            have r6 : w2.cell? ⟨w.heap.size + 1, 6, none⟩ = some (.int .i64 0) := hd.cr 6
            have f6 : w2.frozen? ⟨w.heap.size + 1, 6, none⟩ = false := hd.fr 6
            have r7 : w2.cell? ⟨w.heap.size + 1, 7, none⟩ = some (.int .i64 0) := hd.cr 7
            have f7 : w2.frozen? ⟨w.heap.size + 1, 7, none⟩ = false := hd.fr 7
            have HC : Hid (Calls Try.prog 26 #[.pointer (some ⟨t, 0, none⟩), .int .i64 (k : Int), .string nm] w2 fun e w' => e = .returned (.tuple #[.int .i64 0, .bool false]) ∧ w2 = w') := Lib.hid ((look_any HT2.out k nm).mono (by
              rintro e w' ⟨rfl, hw⟩
              exact ⟨by rw [show lookT T (k : Int).toNat (bs nm) = none from hlk]; rfl, hw⟩))
            have HLK := Lib.hid hlk
            clear hd hb hlk
            go_wp2_with fail
            refine HC.out.mono ?_
            rintro e wl ⟨rfl, rfl⟩
            go_wp2
            refine bodyPost_ret (ret_info rfl rfl (heap_set8 HD2.out.r)) rfl ?_
            refine downPost_err (k := 0) ?_ (by decide) (below_set8 HD2.out.below (by omega))
            rw [HG.out, HQ.out, HN.out, HE0.out, HLK.out]
          | some j2 =>
            obtain ⟨m2, hm2⟩ := look_there HTre.out.snd hlk
            have HM2 := Lib.hid hm2
            have HC : Hid (Calls Try.prog 26 #[.pointer (some ⟨t, 0, none⟩), .int .i64 (k : Int), .string nm] w2 fun e w' => e = .returned (.tuple #[.int .i64 (j2 : Int), .bool true]) ∧ w2 = w') := Lib.hid ((look_any HT2.out k nm).mono (by
              rintro e w' ⟨rfl, hw⟩
              exact ⟨by rw [show lookT T (k : Int).toNat (bs nm) = some j2 from hlk]; rfl, hw⟩))
            have HC2 : Hid (Calls Try.prog 14 #[.pointer (some ⟨t, 0, none⟩), .int .i64 (j2 : Int)] w2 fun e w' => e = .returned (.tuple #[.agg (infC T j2 m2), .bool true]) ∧ Below w2.heap.size w2 w') := Lib.hid ((stat_any HT2.out j2).mono (by
              rintro e w' ⟨rfl, hbb⟩
              have hT' : T (j2 : Int).toNat = some m2 := hm2
              refine ⟨by unfold statV; rw [hT']; rfl, hbb⟩))
            have HLK := Lib.hid hlk
            clear hd hb hlk hm2
            unfold infC at HC2
            go_wp2_with fail
            refine HC.out.mono ?_
            rintro e wl ⟨rfl, rfl⟩
            go_wp2_with fail
            refine HC2.out.mono ?_
            rintro e w3 ⟨rfl, hb⟩
            have HD3 := Lib.hid (HD2.out.turn hb)
            have hd := HD3.out
            have x0 : w3.cell? ⟨w1.heap.size, 0, none⟩ = some (.int .i64 (k : Int)) := hd.cx 0
            have x1 : w3.cell? ⟨w1.heap.size, 1, none⟩ = some (.int .i64 m.kind) := hd.cx 1
            have x2 : w3.cell? ⟨w1.heap.size, 2, none⟩ = some (.int .i64 m.mode) := hd.cx 2
            have x3 : w3.cell? ⟨w1.heap.size, 3, none⟩ = some (.int .i64 m.owner) := hd.cx 3
            have x4 : w3.cell? ⟨w1.heap.size, 4, none⟩ = some (.int .i64 m.group) := hd.cx 4
            have x5 : w3.cell? ⟨w1.heap.size, 5, none⟩ = some (.int .i64 (IT.lnk T k : Nat)) := hd.cx 5
            have x6 : w3.cell? ⟨w1.heap.size, 6, none⟩ = some (.int .i64 (m.data.length + m.names.length : Nat)) := hd.cx 6
            have x7 : w3.cell? ⟨w1.heap.size, 7, none⟩ = some (.int .i64 m.tty) := hd.cx 7
            have y0 : w3.frozen? ⟨w1.heap.size, 0, none⟩ = false := hd.fx 0
            have y1 : w3.frozen? ⟨w1.heap.size, 1, none⟩ = false := hd.fx 1
            have y2 : w3.frozen? ⟨w1.heap.size, 2, none⟩ = false := hd.fx 2
            have y3 : w3.frozen? ⟨w1.heap.size, 3, none⟩ = false := hd.fx 3
            have y4 : w3.frozen? ⟨w1.heap.size, 4, none⟩ = false := hd.fx 4
            have y5 : w3.frozen? ⟨w1.heap.size, 5, none⟩ = false := hd.fx 5
            have y6 : w3.frozen? ⟨w1.heap.size, 6, none⟩ = false := hd.fx 6
            have y7 : w3.frozen? ⟨w1.heap.size, 7, none⟩ = false := hd.fx 7
            clear hd hb
            go_wp2
            go_roundw
            case rel => exact ⟨j + 1, j2, m2, by go_num, by omega, HD3.out.store HM2.out (by have := HS1.out; omega) (by have := HS1.out; omega) (by have := HS1.out; omega), by rw [HQ.out, HN.out, HE0.out, HLK.out]⟩
            case measure => simp [intOf]; omega
        · have hz1 : (r != 0) = true := by simpa using hz
          have r0 : w2.cell? ⟨w.heap.size + 1, 0, none⟩ = some (.int .i64 0) := hd.cr 0
          have f0 : w2.frozen? ⟨w.heap.size + 1, 0, none⟩ = false := hd.fr 0
          have r1 : w2.cell? ⟨w.heap.size + 1, 1, none⟩ = some (.int .i64 0) := hd.cr 1
          have f1 : w2.frozen? ⟨w.heap.size + 1, 1, none⟩ = false := hd.fr 1
          have r2 : w2.cell? ⟨w.heap.size + 1, 2, none⟩ = some (.int .i64 0) := hd.cr 2
          have f2 : w2.frozen? ⟨w.heap.size + 1, 2, none⟩ = false := hd.fr 2
          have r3 : w2.cell? ⟨w.heap.size + 1, 3, none⟩ = some (.int .i64 0) := hd.cr 3
          have f3 : w2.frozen? ⟨w.heap.size + 1, 3, none⟩ = false := hd.fr 3
          have r4 : w2.cell? ⟨w.heap.size + 1, 4, none⟩ = some (.int .i64 0) := hd.cr 4
          have f4 : w2.frozen? ⟨w.heap.size + 1, 4, none⟩ = false := hd.fr 4
          have r5 : w2.cell? ⟨w.heap.size + 1, 5, none⟩ = some (.int .i64 0) := hd.cr 5
          have f5 : w2.frozen? ⟨w.heap.size + 1, 5, none⟩ = false := hd.fr 5
          have r6 : w2.cell? ⟨w.heap.size + 1, 6, none⟩ = some (.int .i64 0) := hd.cr 6
          have f6 : w2.frozen? ⟨w.heap.size + 1, 6, none⟩ = false := hd.fr 6
          have r7 : w2.cell? ⟨w.heap.size + 1, 7, none⟩ = some (.int .i64 0) := hd.cr 7
          have f7 : w2.frozen? ⟨w.heap.size + 1, 7, none⟩ = false := hd.fr 7
          have HNZ := Lib.hid hz
          have HB := Lib.hid hb
          clear hz hd hb
          go_wp2
          refine bodyPost_ret (ret_info rfl rfl (heap_set8 HD2.out.r)) rfl ?_
          refine downPost_err (k := 0) ?_ HNZ.out (below_set8 HD2.out.below (by omega))
          rw [HG.out, HQ.out, HN.out]
          unfold downT
          rw [HDI.out.at_]
          dsimp only
          rw [if_pos (by rw [← HR2.out]; exact HNZ.out), HR2.out]
      · obtain rfl : j = l.length := by omega
        clear hlt hj
        have r0 : wr.cell? ⟨w.heap.size + 1, 0, none⟩ = some (.int .i64 0) := hd.cr 0
        have f0 : wr.frozen? ⟨w.heap.size + 1, 0, none⟩ = false := hd.fr 0
        have r1 : wr.cell? ⟨w.heap.size + 1, 1, none⟩ = some (.int .i64 0) := hd.cr 1
        have f1 : wr.frozen? ⟨w.heap.size + 1, 1, none⟩ = false := hd.fr 1
        have r2 : wr.cell? ⟨w.heap.size + 1, 2, none⟩ = some (.int .i64 0) := hd.cr 2
        have f2 : wr.frozen? ⟨w.heap.size + 1, 2, none⟩ = false := hd.fr 2
        have r3 : wr.cell? ⟨w.heap.size + 1, 3, none⟩ = some (.int .i64 0) := hd.cr 3
        have f3 : wr.frozen? ⟨w.heap.size + 1, 3, none⟩ = false := hd.fr 3
        have r4 : wr.cell? ⟨w.heap.size + 1, 4, none⟩ = some (.int .i64 0) := hd.cr 4
        have f4 : wr.frozen? ⟨w.heap.size + 1, 4, none⟩ = false := hd.fr 4
        have r5 : wr.cell? ⟨w.heap.size + 1, 5, none⟩ = some (.int .i64 0) := hd.cr 5
        have f5 : wr.frozen? ⟨w.heap.size + 1, 5, none⟩ = false := hd.fr 5
        have r6 : wr.cell? ⟨w.heap.size + 1, 6, none⟩ = some (.int .i64 0) := hd.cr 6
        have f6 : wr.frozen? ⟨w.heap.size + 1, 6, none⟩ = false := hd.fr 6
        have r7 : wr.cell? ⟨w.heap.size + 1, 7, none⟩ = some (.int .i64 0) := hd.cr 7
        have f7 : wr.frozen? ⟨w.heap.size + 1, 7, none⟩ = false := hd.fr 7
        clear hd heq
        go_wp2
        refine bodyPost_ret (ret_info rfl rfl (heap_set8 HDI.out.r)) rfl ?_
        refine downPost_ok (k := k) ?_ (stat_eq HDI.out.at_) (below_set8 HDI.out.below (by omega))
        rw [HG.out, HQ.out, List.drop_length]; rfl
set_option maxRecDepth 100000 in
set_option maxHeartbeats 4000000 in
theorem wdown_cwd {w : World} {t : Nat} {S : Tab} {T : IT.Tr} (h : Tre w t S T) (cwd : Int) (c : Cr) (a : Option Addr) (cap : Nat) (l : List ByteArray) (hrow : Row w a l) (hl : l.length ≤ maxLen) :
    Calls Try.prog 75 #[ask t cwd c, .bool false, .slice a l.length cap] w (DownPost T c cwd false l w) := by
  have HR := Lib.hid hrow
  have H := Lib.hid h
  unfold maxLen at hl
  have h2t := h.mv ((Mv.refl h.rep).alloc (.cells (askC t cwd c) 74))
  have h3t := h2t.mv ((Mv.refl h2t.rep).alloc (.cells zeroC 35))
  have h3 := stat_any h3t cwd
  have hzr : ((w.alloc (.cells (askC t cwd c) 74)).alloc (.cells zeroC 35)).heap[w.heap.size + 1]? = some (.cells zeroC 35 (0, 0)) := by
    have := alloc_heap (w.alloc (Obj.cells (askC t cwd c) 74)) (Obj.cells zeroC 35)
    rw [alloc_size] at this
    exact this
  have hza : ((w.alloc (.cells (askC t cwd c) 74)).alloc (.cells zeroC 35)).heap[w.heap.size]? = some (.cells (askC t cwd c) 74 (0, 0)) := by
    rw [alloc_heap_old _ _ (by rw [alloc_size]; omega), alloc_heap]
  have hzb : Below w.heap.size w ((w.alloc (.cells (askC t cwd c) 74)).alloc (.cells zeroC 35)) := ((Below.refl _ _).alloc (Nat.le_refl _) _).alloc (by rw [alloc_size]; omega) _
  have hzs : ((w.alloc (.cells (askC t cwd c) 74)).alloc (.cells zeroC 35)).heap.size = w.heap.size + 1 + 1 := by rw [alloc_size, alloc_size]
  have HZ := Lib.hid (And.intro hzr (And.intro hza (And.intro hzb hzs)))
  clear h hrow h2t h3t hzr hza hzb hzs
  cases hT : T (startT cwd false) with
  | none =>
    have HG : Hid (goT T c cwd false (l.map bs) = (0, 3)) := Lib.hid (by unfold goT; rw [if_pos hT])
    have HC : Hid (Calls Try.prog 14 #[.pointer (some ⟨t, 0, none⟩), .int .i64 cwd] ((w.alloc (.cells (askC t cwd c) 74)).alloc (.cells zeroC 35)) fun e w' => e = .returned (.tuple #[.agg #[.int .i64 0, .int .i64 0, .int .i64 0, .int .i64 0, .int .i64 0, .int .i64 0, .int .i64 0, .int .i64 0], .bool false]) ∧ Below ((w.alloc (.cells (askC t cwd c) 74)).alloc (.cells zeroC 35)).heap.size ((w.alloc (.cells (askC t cwd c) 74)).alloc (.cells zeroC 35)) w') := Lib.hid (h3.mono (by
      rintro e w' ⟨rfl, hb⟩
      have hT' : T cwd.toNat = none := hT
      refine ⟨by unfold statV; rw [hT']; rfl, hb⟩))
    clear h3 hT
    unfold ask
    go_enter Try.func75, Try.ntmps75
    go_wp2_with fail
    refine HC.out.mono ?_
    rintro e w1 ⟨rfl, hb⟩
    have HB := Lib.hid hb
    have hs : w.heap.size + 1 + 1 ≤ w1.heap.size := by have := hb.size; rwa [HZ.out.2.2.2] at this
    have hr : w1.heap[w.heap.size + 1]? = some (.cells zeroC 35 (0, 0)) := by
      rw [hb.block _ (by rw [HZ.out.2.2.2]; omega)]; exact HZ.out.1
    have r0 : w1.cell? ⟨w.heap.size + 1, 0, none⟩ = some (.int .i64 0) := cell_of hr 0
    have f0 : w1.frozen? ⟨w.heap.size + 1, 0, none⟩ = false := frozen_of hr 0
    have r1 : w1.cell? ⟨w.heap.size + 1, 1, none⟩ = some (.int .i64 0) := cell_of hr 1
    have f1 : w1.frozen? ⟨w.heap.size + 1, 1, none⟩ = false := frozen_of hr 1
    have r2 : w1.cell? ⟨w.heap.size + 1, 2, none⟩ = some (.int .i64 0) := cell_of hr 2
    have f2 : w1.frozen? ⟨w.heap.size + 1, 2, none⟩ = false := frozen_of hr 2
    have r3 : w1.cell? ⟨w.heap.size + 1, 3, none⟩ = some (.int .i64 0) := cell_of hr 3
    have f3 : w1.frozen? ⟨w.heap.size + 1, 3, none⟩ = false := frozen_of hr 3
    have r4 : w1.cell? ⟨w.heap.size + 1, 4, none⟩ = some (.int .i64 0) := cell_of hr 4
    have f4 : w1.frozen? ⟨w.heap.size + 1, 4, none⟩ = false := frozen_of hr 4
    have r5 : w1.cell? ⟨w.heap.size + 1, 5, none⟩ = some (.int .i64 0) := cell_of hr 5
    have f5 : w1.frozen? ⟨w.heap.size + 1, 5, none⟩ = false := frozen_of hr 5
    have r6 : w1.cell? ⟨w.heap.size + 1, 6, none⟩ = some (.int .i64 0) := cell_of hr 6
    have f6 : w1.frozen? ⟨w.heap.size + 1, 6, none⟩ = false := frozen_of hr 6
    have r7 : w1.cell? ⟨w.heap.size + 1, 7, none⟩ = some (.int .i64 0) := cell_of hr 7
    have f7 : w1.frozen? ⟨w.heap.size + 1, 7, none⟩ = false := frozen_of hr 7
    have hs1 : w.heap.size + 1 < w1.heap.size := by omega
    have hs2 : w.heap.size < w1.heap.size := by omega
    have HRR := Lib.hid hr
    clear hb hr hs
    go_wp2
    refine bodyPost_ret (ret_info rfl rfl ((alloc_heap_old _ _ (by simpa [World.setCell] using hs1)).trans (heap_set8 HRR.out))) rfl ?_
    exact downPost_err HG.out (by decide) (belowA (below_set8 (HZ.out.2.2.1.trans (HB.out.mono (by rw [HZ.out.2.2.2]; omega))) (by omega)) _)
  | some m0 =>
    have HC : Hid (Calls Try.prog 14 #[.pointer (some ⟨t, 0, none⟩), .int .i64 cwd] ((w.alloc (.cells (askC t cwd c) 74)).alloc (.cells zeroC 35)) fun e w' => e = .returned (.tuple #[.agg (infC T (startT cwd false) m0), .bool true]) ∧ Below ((w.alloc (.cells (askC t cwd c) 74)).alloc (.cells zeroC 35)).heap.size ((w.alloc (.cells (askC t cwd c) 74)).alloc (.cells zeroC 35)) w') := Lib.hid (h3.mono (by
      rintro e w' ⟨rfl, hb⟩
      have hT' : T cwd.toNat = some m0 := hT
      refine ⟨by unfold statV; rw [hT']; rfl, hb⟩))
    have HG : Hid (goT T c cwd false (l.map bs) = downT T c (startT cwd false) (l.map bs)) := Lib.hid (by unfold goT; rw [if_neg (by rw [hT]; intro e; cases e)])
    have HT := Lib.hid hT
    obtain ⟨k0, hk0⟩ : ∃ k0, k0 = startT cwd false := ⟨_, rfl⟩
    rw [← hk0] at HC HG HT
    clear h3 hT hk0
    unfold infC at HC
    unfold ask
    go_enter Try.func75, Try.ntmps75
    go_wp2_with fail
    refine HC.out.mono ?_
    rintro e w1 ⟨rfl, hb⟩
    have HD : Hid (DI w t cwd c T w.heap.size (w.heap.size + 1) w1.heap.size k0 m0 (w1.alloc (.cells (infC T k0 m0) 35))) := Lib.hid (by
      have hs := hb.size
      rw [HZ.out.2.2.2] at hs
      refine ⟨(HZ.out.2.2.1.trans (hb.mono (by rw [HZ.out.2.2.2]; omega))).alloc (by omega) _, ?_, ?_, alloc_heap _ _, HT.out⟩
      · rw [alloc_heap_old _ _ (by omega), hb.block _ (by rw [HZ.out.2.2.2]; omega)]; exact HZ.out.2.1
      · rw [alloc_heap_old _ _ (by omega), hb.block _ (by rw [HZ.out.2.2.2]; omega)]; exact HZ.out.1)
    have HS1 : Hid (w.heap.size + 1 < w1.heap.size) := Lib.hid (by have hs := hb.size; rw [HZ.out.2.2.2] at hs; omega)
    have HSz : Hid (w1.heap.size < (w1.alloc (.cells (infC T k0 m0) 35)).heap.size) := Lib.hid (by rw [alloc_size]; omega)
    clear hb HC
    go_wp2_with fail
    go_loopw [31] (fun iv wr => ∃ (j k : Nat) (m : IT.Nd), iv = .int .i64 j ∧ j ≤ l.length ∧ DI w t cwd c T w.heap.size (w.heap.size + 1) w1.heap.size k m wr ∧ downT T c k0 (l.map bs) = downT T c k ((l.drop j).map bs)) (fun iv _ => l.length - (intOf iv).toNat)
    case atStart => exact ⟨0, k0, m0, rfl, Nat.zero_le _, HD.out, rfl⟩
    case round =>
      clear HD
      obtain ⟨j, k, m, rfl, hj, hd, heq⟩ := hrel
      have HDI := Lib.hid hd
      have HQ := Lib.hid heq
      have a0 : wr.cell? ⟨w.heap.size, 0, none⟩ = some (.pointer (some ⟨t, 0, none⟩)) := hd.ca 0
      have a1 : wr.cell? ⟨w.heap.size, 1, none⟩ = some (.int .i64 cwd) := hd.ca 1
      have a2 : wr.cell? ⟨w.heap.size, 2, none⟩ = some (.int .i64 c.real) := hd.ca 2
      have a3 : wr.cell? ⟨w.heap.size, 3, none⟩ = some (.int .i64 c.eff) := hd.ca 3
      have a4 : wr.cell? ⟨w.heap.size, 4, none⟩ = some (.int .i64 c.saved) := hd.ca 4
      have a5 : wr.cell? ⟨w.heap.size, 5, none⟩ = some (.int .i64 c.group) := hd.ca 5
      have a6 : wr.cell? ⟨w.heap.size, 6, none⟩ = some (.int .i64 c.eg) := hd.ca 6
      have x0 : wr.cell? ⟨w1.heap.size, 0, none⟩ = some (.int .i64 (k : Int)) := hd.cx 0
      have x1 : wr.cell? ⟨w1.heap.size, 1, none⟩ = some (.int .i64 m.kind) := hd.cx 1
      have x2 : wr.cell? ⟨w1.heap.size, 2, none⟩ = some (.int .i64 m.mode) := hd.cx 2
      have x3 : wr.cell? ⟨w1.heap.size, 3, none⟩ = some (.int .i64 m.owner) := hd.cx 3
      have x4 : wr.cell? ⟨w1.heap.size, 4, none⟩ = some (.int .i64 m.group) := hd.cx 4
      have x5 : wr.cell? ⟨w1.heap.size, 5, none⟩ = some (.int .i64 (IT.lnk T k : Nat)) := hd.cx 5
      have x6 : wr.cell? ⟨w1.heap.size, 6, none⟩ = some (.int .i64 (m.data.length + m.names.length : Nat)) := hd.cx 6
      have x7 : wr.cell? ⟨w1.heap.size, 7, none⟩ = some (.int .i64 m.tty) := hd.cx 7
      by_cases hlt : j < l.length
      · obtain ⟨nb, no, rfl, hnb, hnc⟩ := HR.out j hlt
        have hn : wr.cell? ⟨nb, no + j, none⟩ = some (.string l[j]) := by rw [hd.below.cell (p := ⟨nb, no + j, none⟩) hnb]; exact hnc
        have hlt1 : (j : Int) < l.length := by omega
        have HN := Lib.hid (drop_map hlt)
        have HTre := Lib.hid (H.out.mv ((Mv.refl H.out.rep).below hd.below))
        clear hd heq hnc
        generalize hnm : l[j] = nm at *
        clear hnm
        go_wp2_with fail
        refine (wenters_any t cwd c _ _ _ _ _ _ _ _ _).mono ?_
        rintro e w2 ⟨r, rfl, hr, hb⟩
        have HD2 := Lib.hid (HDI.out.turn hb)
        have hd := HD2.out
        have HR2 : Hid (r = entersE m c) := Lib.hid hr
        clear hr a0 a1 a2 a3 a4 a5 a6 x0 x1 x2 x3 x4 x5 x6 x7 hn
        by_cases hz : r = 0
        · obtain rfl : r = 0 := hz
          have a0 : w2.cell? ⟨w.heap.size, 0, none⟩ = some (.pointer (some ⟨t, 0, none⟩)) := hd.ca 0
          have x0 : w2.cell? ⟨w1.heap.size, 0, none⟩ = some (.int .i64 (k : Int)) := hd.cx 0
          have HT2 := Lib.hid (HTre.out.mv ((Mv.refl HTre.out.rep).below hb))
          have HE0 := Lib.hid (down_step (T := T) (c := c) (n := bs nm) HDI.out.at_ HR2.out.symm)
          cases hlk : lookT T k (bs nm) with
          | none =>
            have r0 : w2.cell? ⟨w.heap.size + 1, 0, none⟩ = some (.int .i64 0) := hd.cr 0
            have f0 : w2.frozen? ⟨w.heap.size + 1, 0, none⟩ = false := hd.fr 0
            have r1 : w2.cell? ⟨w.heap.size + 1, 1, none⟩ = some (.int .i64 0) := hd.cr 1
            have f1 : w2.frozen? ⟨w.heap.size + 1, 1, none⟩ = false := hd.fr 1
            have r2 : w2.cell? ⟨w.heap.size + 1, 2, none⟩ = some (.int .i64 0) := hd.cr 2
            have f2 : w2.frozen? ⟨w.heap.size + 1, 2, none⟩ = false := hd.fr 2
            have r3 : w2.cell? ⟨w.heap.size + 1, 3, none⟩ = some (.int .i64 0) := hd.cr 3
            have f3 : w2.frozen? ⟨w.heap.size + 1, 3, none⟩ = false := hd.fr 3
            have r4 : w2.cell? ⟨w.heap.size + 1, 4, none⟩ = some (.int .i64 0) := hd.cr 4
            have f4 : w2.frozen? ⟨w.heap.size + 1, 4, none⟩ = false := hd.fr 4
            have r5 : w2.cell? ⟨w.heap.size + 1, 5, none⟩ = some (.int .i64 0) := hd.cr 5
            have f5 : w2.frozen? ⟨w.heap.size + 1, 5, none⟩ = false := hd.fr 5
            have r6 : w2.cell? ⟨w.heap.size + 1, 6, none⟩ = some (.int .i64 0) := hd.cr 6
            have f6 : w2.frozen? ⟨w.heap.size + 1, 6, none⟩ = false := hd.fr 6
            have r7 : w2.cell? ⟨w.heap.size + 1, 7, none⟩ = some (.int .i64 0) := hd.cr 7
            have f7 : w2.frozen? ⟨w.heap.size + 1, 7, none⟩ = false := hd.fr 7
            have HC : Hid (Calls Try.prog 26 #[.pointer (some ⟨t, 0, none⟩), .int .i64 (k : Int), .string nm] w2 fun e w' => e = .returned (.tuple #[.int .i64 0, .bool false]) ∧ w2 = w') := Lib.hid ((look_any HT2.out k nm).mono (by
              rintro e w' ⟨rfl, hw⟩
              exact ⟨by rw [show lookT T (k : Int).toNat (bs nm) = none from hlk]; rfl, hw⟩))
            have HLK := Lib.hid hlk
            clear hd hb hlk
            go_wp2_with fail
            refine HC.out.mono ?_
            rintro e wl ⟨rfl, rfl⟩
            go_wp2
            refine bodyPost_ret (ret_info rfl rfl (heap_set8 HD2.out.r)) rfl ?_
            refine downPost_err (k := 0) ?_ (by decide) (below_set8 HD2.out.below (by omega))
            rw [HG.out, HQ.out, HN.out, HE0.out, HLK.out]
          | some j2 =>
            obtain ⟨m2, hm2⟩ := look_there HTre.out.snd hlk
            have HM2 := Lib.hid hm2
            have HC : Hid (Calls Try.prog 26 #[.pointer (some ⟨t, 0, none⟩), .int .i64 (k : Int), .string nm] w2 fun e w' => e = .returned (.tuple #[.int .i64 (j2 : Int), .bool true]) ∧ w2 = w') := Lib.hid ((look_any HT2.out k nm).mono (by
              rintro e w' ⟨rfl, hw⟩
              exact ⟨by rw [show lookT T (k : Int).toNat (bs nm) = some j2 from hlk]; rfl, hw⟩))
            have HC2 : Hid (Calls Try.prog 14 #[.pointer (some ⟨t, 0, none⟩), .int .i64 (j2 : Int)] w2 fun e w' => e = .returned (.tuple #[.agg (infC T j2 m2), .bool true]) ∧ Below w2.heap.size w2 w') := Lib.hid ((stat_any HT2.out j2).mono (by
              rintro e w' ⟨rfl, hbb⟩
              have hT' : T (j2 : Int).toNat = some m2 := hm2
              refine ⟨by unfold statV; rw [hT']; rfl, hbb⟩))
            have HLK := Lib.hid hlk
            clear hd hb hlk hm2
            unfold infC at HC2
            go_wp2_with fail
            refine HC.out.mono ?_
            rintro e wl ⟨rfl, rfl⟩
            go_wp2_with fail
            refine HC2.out.mono ?_
            rintro e w3 ⟨rfl, hb⟩
            have HD3 := Lib.hid (HD2.out.turn hb)
            have hd := HD3.out
            have x0 : w3.cell? ⟨w1.heap.size, 0, none⟩ = some (.int .i64 (k : Int)) := hd.cx 0
            have x1 : w3.cell? ⟨w1.heap.size, 1, none⟩ = some (.int .i64 m.kind) := hd.cx 1
            have x2 : w3.cell? ⟨w1.heap.size, 2, none⟩ = some (.int .i64 m.mode) := hd.cx 2
            have x3 : w3.cell? ⟨w1.heap.size, 3, none⟩ = some (.int .i64 m.owner) := hd.cx 3
            have x4 : w3.cell? ⟨w1.heap.size, 4, none⟩ = some (.int .i64 m.group) := hd.cx 4
            have x5 : w3.cell? ⟨w1.heap.size, 5, none⟩ = some (.int .i64 (IT.lnk T k : Nat)) := hd.cx 5
            have x6 : w3.cell? ⟨w1.heap.size, 6, none⟩ = some (.int .i64 (m.data.length + m.names.length : Nat)) := hd.cx 6
            have x7 : w3.cell? ⟨w1.heap.size, 7, none⟩ = some (.int .i64 m.tty) := hd.cx 7
            have y0 : w3.frozen? ⟨w1.heap.size, 0, none⟩ = false := hd.fx 0
            have y1 : w3.frozen? ⟨w1.heap.size, 1, none⟩ = false := hd.fx 1
            have y2 : w3.frozen? ⟨w1.heap.size, 2, none⟩ = false := hd.fx 2
            have y3 : w3.frozen? ⟨w1.heap.size, 3, none⟩ = false := hd.fx 3
            have y4 : w3.frozen? ⟨w1.heap.size, 4, none⟩ = false := hd.fx 4
            have y5 : w3.frozen? ⟨w1.heap.size, 5, none⟩ = false := hd.fx 5
            have y6 : w3.frozen? ⟨w1.heap.size, 6, none⟩ = false := hd.fx 6
            have y7 : w3.frozen? ⟨w1.heap.size, 7, none⟩ = false := hd.fx 7
            clear hd hb
            go_wp2
            go_roundw
            case rel => exact ⟨j + 1, j2, m2, by go_num, by omega, HD3.out.store HM2.out (by have := HS1.out; omega) (by have := HS1.out; omega) (by have := HS1.out; omega), by rw [HQ.out, HN.out, HE0.out, HLK.out]⟩
            case measure => simp [intOf]; omega
        · have hz1 : (r != 0) = true := by simpa using hz
          have r0 : w2.cell? ⟨w.heap.size + 1, 0, none⟩ = some (.int .i64 0) := hd.cr 0
          have f0 : w2.frozen? ⟨w.heap.size + 1, 0, none⟩ = false := hd.fr 0
          have r1 : w2.cell? ⟨w.heap.size + 1, 1, none⟩ = some (.int .i64 0) := hd.cr 1
          have f1 : w2.frozen? ⟨w.heap.size + 1, 1, none⟩ = false := hd.fr 1
          have r2 : w2.cell? ⟨w.heap.size + 1, 2, none⟩ = some (.int .i64 0) := hd.cr 2
          have f2 : w2.frozen? ⟨w.heap.size + 1, 2, none⟩ = false := hd.fr 2
          have r3 : w2.cell? ⟨w.heap.size + 1, 3, none⟩ = some (.int .i64 0) := hd.cr 3
          have f3 : w2.frozen? ⟨w.heap.size + 1, 3, none⟩ = false := hd.fr 3
          have r4 : w2.cell? ⟨w.heap.size + 1, 4, none⟩ = some (.int .i64 0) := hd.cr 4
          have f4 : w2.frozen? ⟨w.heap.size + 1, 4, none⟩ = false := hd.fr 4
          have r5 : w2.cell? ⟨w.heap.size + 1, 5, none⟩ = some (.int .i64 0) := hd.cr 5
          have f5 : w2.frozen? ⟨w.heap.size + 1, 5, none⟩ = false := hd.fr 5
          have r6 : w2.cell? ⟨w.heap.size + 1, 6, none⟩ = some (.int .i64 0) := hd.cr 6
          have f6 : w2.frozen? ⟨w.heap.size + 1, 6, none⟩ = false := hd.fr 6
          have r7 : w2.cell? ⟨w.heap.size + 1, 7, none⟩ = some (.int .i64 0) := hd.cr 7
          have f7 : w2.frozen? ⟨w.heap.size + 1, 7, none⟩ = false := hd.fr 7
          have HNZ := Lib.hid hz
          have HB := Lib.hid hb
          clear hz hd hb
          go_wp2
          refine bodyPost_ret (ret_info rfl rfl (heap_set8 HD2.out.r)) rfl ?_
          refine downPost_err (k := 0) ?_ HNZ.out (below_set8 HD2.out.below (by omega))
          rw [HG.out, HQ.out, HN.out]
          unfold downT
          rw [HDI.out.at_]
          dsimp only
          rw [if_pos (by rw [← HR2.out]; exact HNZ.out), HR2.out]
      · obtain rfl : j = l.length := by omega
        clear hlt hj
        have r0 : wr.cell? ⟨w.heap.size + 1, 0, none⟩ = some (.int .i64 0) := hd.cr 0
        have f0 : wr.frozen? ⟨w.heap.size + 1, 0, none⟩ = false := hd.fr 0
        have r1 : wr.cell? ⟨w.heap.size + 1, 1, none⟩ = some (.int .i64 0) := hd.cr 1
        have f1 : wr.frozen? ⟨w.heap.size + 1, 1, none⟩ = false := hd.fr 1
        have r2 : wr.cell? ⟨w.heap.size + 1, 2, none⟩ = some (.int .i64 0) := hd.cr 2
        have f2 : wr.frozen? ⟨w.heap.size + 1, 2, none⟩ = false := hd.fr 2
        have r3 : wr.cell? ⟨w.heap.size + 1, 3, none⟩ = some (.int .i64 0) := hd.cr 3
        have f3 : wr.frozen? ⟨w.heap.size + 1, 3, none⟩ = false := hd.fr 3
        have r4 : wr.cell? ⟨w.heap.size + 1, 4, none⟩ = some (.int .i64 0) := hd.cr 4
        have f4 : wr.frozen? ⟨w.heap.size + 1, 4, none⟩ = false := hd.fr 4
        have r5 : wr.cell? ⟨w.heap.size + 1, 5, none⟩ = some (.int .i64 0) := hd.cr 5
        have f5 : wr.frozen? ⟨w.heap.size + 1, 5, none⟩ = false := hd.fr 5
        have r6 : wr.cell? ⟨w.heap.size + 1, 6, none⟩ = some (.int .i64 0) := hd.cr 6
        have f6 : wr.frozen? ⟨w.heap.size + 1, 6, none⟩ = false := hd.fr 6
        have r7 : wr.cell? ⟨w.heap.size + 1, 7, none⟩ = some (.int .i64 0) := hd.cr 7
        have f7 : wr.frozen? ⟨w.heap.size + 1, 7, none⟩ = false := hd.fr 7
        clear hd heq
        go_wp2
        refine bodyPost_ret (ret_info rfl rfl (heap_set8 HDI.out.r)) rfl ?_
        refine downPost_ok (k := k) ?_ (stat_eq HDI.out.at_) (below_set8 HDI.out.below (by omega))
        rw [HG.out, HQ.out, List.drop_length]; rfl
theorem wdown_any {w : World} {t : Nat} {S : Tab} {T : IT.Tr} (h : Tre w t S T) (cwd : Int) (c : Cr) (abs : Bool) (a : Option Addr) (cap : Nat) (l : List ByteArray) (hrow : Row w a l) (hl : l.length ≤ maxLen) :
    Calls Try.prog 75 #[ask t cwd c, .bool abs, .slice a l.length cap] w (DownPost T c cwd abs l w) := by
  cases abs with
  | true => exact wdown_root h cwd c a cap l hrow hl
  | false => exact wdown_cwd h cwd c a cap l hrow hl
end Go.Proofs.Ytafonmnfeibaiaa
