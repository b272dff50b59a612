import Derived.Test.YtafonmnfeibaiaaInMx
namespace Go.Proofs.Ytafonmnfeibaiaa
open Go.RowKit

theorem MvW.fin {w1 : World} {t : Nat} {S : Tab} {d b x bd bb bx : Nat} {nd nb1 nx : Nd} {s ar : ByteArray} {m m2 : Nat} {O1 O2 : Obj} {l2} (h : MvW w1 t S d b x bd bb bx nd nb1 nx s ar m m2 O1 O2 l2) (hx : S x = some (bx, nx)) (hxd : x ≠ d) (hxb : x ≠ b) (j : Nat) :
    (nx.kind = 1 → Mv w1 t S ((((w1.drewN j).putObj m O1).drew.putObj m2 O2).setCell ⟨bx, 11, none⟩ (.int .i64 (b : Int))) (movedS S d b x bd nd bb nb1 bx nx s l2)) ∧
    (nx.kind ≠ 1 → Mv w1 t S (((w1.drewN j).putObj m O1).drew.putObj m2 O2) (movedS S d b x bd nd bb nb1 bx nx s l2)) := by
  have hS : upd (upd S d (some (bd, { nd with names := delL nd.names s }))) b (some (bb, { nb1 with names := l2 })) x = some (bx, nx) := by
    rw [upd_other _ _ hxb, upd_other _ _ hxd]; exact hx
  have hmv := h.mv j
  have hsm := (hmv.rep.small x bx nx hS).1
  refine ⟨fun hk => ?_, fun hk => ?_⟩
  · exact hmv.setNode hS 11 (.int .i64 (b : Int)) { nx with parent := if nx.kind = 1 then b else nx.parent } (by simp [Nd.cells, hk]) rfl rfl rfl rfl hsm
  · have e : movedS S d b x bd nd bb nb1 bx nx s l2 = upd (upd S d (some (bd, { nd with names := delL nd.names s }))) b (some (bb, { nb1 with names := l2 })) := by
      unfold movedS
      have e2 : ({ nx with parent := if nx.kind = 1 then b else nx.parent } : Nd) = nx := by rw [if_neg hk]
      rw [e2]; exact upd_self _ _ hS
    rw [e]; exact hmv
theorem MvW.at_x {w1 : World} {t : Nat} {S : Tab} {d b x bd bb bx : Nat} {nd nb1 nx : Nd} {s ar : ByteArray} {m m2 : Nat} {O1 O2 : Obj} {l2} (h : MvW w1 t S d b x bd bb bx nd nb1 nx s ar m m2 O1 O2 l2) (hx : S x = some (bx, nx)) (hxd : x ≠ d) (hxb : x ≠ b) (i j : Nat) :
    (((w1.drewN j).putObj m O1).drew.putObj m2 O2).cell? ⟨bx, i, none⟩ = nx.cells[i]? ∧ (((w1.drewN j).putObj m O1).drew.putObj m2 O2).frozen? ⟨bx, i, none⟩ = false := by
  have hS : upd (upd S d (some (bd, { nd with names := delL nd.names s }))) b (some (bb, { nb1 with names := l2 })) x = some (bx, nx) := by
    rw [upd_other _ _ hxb, upd_other _ _ hxd]; exact hx
  exact ⟨(h.mv j).rep.cellN hS i, (h.mv j).rep.frozenN hS i⟩
set_option maxHeartbeats 400000 in
theorem mv_no {w : World} {t : Nat} {S : Tab} (h : Rep w t S) (d b : Int) (s ar : ByteArray) (hn : S d.toNat = none ∨ S b.toNat = none) :
    Calls Try.prog 24 #[.pointer (some ⟨t, 0, none⟩), .int .i64 d, .string s, .int .i64 b, .string ar] w fun e w' => e = .returned (.int .i64 3) ∧ w = w' := by
  have H := Lib.hid h
  have HN := Lib.hid hn
  clear h hn
  go_enter Try.func24, Try.ntmps24
  go_wp2_with fail
  refine (pair_none H.out _ _ HN.out).mono ?_
  rintro e w' ⟨rfl, rfl⟩
  go_wp2
  go_ret
  exact ⟨rfl, rfl⟩
set_option maxRecDepth 100000 in
set_option maxHeartbeats 400000 in
theorem mv_kind1 {w : World} {t bd bb : Nat} {S : Tab} {nd nb : Nd} (h : Rep w t S) (d b : Int) (hd : S d.toNat = some (bd, nd)) (hb : S b.toNat = some (bb, nb)) (s ar : ByteArray) (hkd : ¬ nd.kind = 1) :
    Calls Try.prog 24 #[.pointer (some ⟨t, 0, none⟩), .int .i64 d, .string s, .int .i64 b, .string ar] w fun e w' => e = .returned (.int .i64 6) ∧ w = w' := by
  have c1 := h.c1 hd
  have hkb : (nd.kind != 1) = true := by simpa using hkd
  have H := Lib.hid h
  have HD := Lib.hid hd
  have HB := Lib.hid hb
  clear h hd hb hkd
  go_enter Try.func24, Try.ntmps24
  go_wp2_with fail
  refine (pair_ok H.out _ _ HD.out HB.out).mono ?_
  rintro e w' ⟨rfl, rfl⟩
  go_wp2
  go_ret
  exact ⟨rfl, rfl⟩
set_option maxRecDepth 100000 in
set_option maxHeartbeats 400000 in
theorem mv_kind2 {w : World} {t bd bb : Nat} {S : Tab} {nd nb : Nd} (h : Rep w t S) (d b : Int) (hd : S d.toNat = some (bd, nd)) (hb : S b.toNat = some (bb, nb)) (s ar : ByteArray) (hkd : nd.kind = 1) (hkb : ¬ nb.kind = 1) :
    Calls Try.prog 24 #[.pointer (some ⟨t, 0, none⟩), .int .i64 d, .string s, .int .i64 b, .string ar] w fun e w' => e = .returned (.int .i64 6) ∧ w = w' := by
  have c1 : w.cell? ⟨bd, 1, none⟩ = some (.int .i64 1) := by rw [h.c1 hd, hkd]
  have e1 := h.c1 hb
  have hkbb : (nb.kind != 1) = true := by simpa using hkb
  have H := Lib.hid h
  have HD := Lib.hid hd
  have HB := Lib.hid hb
  clear h hd hb hkd hkb
  go_enter Try.func24, Try.ntmps24
  go_wp2_with fail
  refine (pair_ok H.out _ _ HD.out HB.out).mono ?_
  rintro e w' ⟨rfl, rfl⟩
  go_wp2
  go_ret
  exact ⟨rfl, rfl⟩
set_option maxRecDepth 100000 in
set_option maxHeartbeats 400000 in
theorem mv_noent {w : World} {t bd bb : Nat} {S : Tab} {nd nb : Nd} (h : Rep w t S) (d b : Int) (hd : S d.toNat = some (bd, nd)) (hb : S b.toNat = some (bb, nb)) (s ar : ByteArray) (hkd : nd.kind = 1) (hkb : nb.kind = 1) (hl : look nd.names s = none) :
    Calls Try.prog 24 #[.pointer (some ⟨t, 0, none⟩), .int .i64 d, .string s, .int .i64 b, .string ar] w fun e w' => e = .returned (.int .i64 3) ∧ w = w' := by
  have c1 : w.cell? ⟨bd, 1, none⟩ = some (.int .i64 1) := by rw [h.c1 hd, hkd]
  have e1 : w.cell? ⟨bb, 1, none⟩ = some (.int .i64 1) := by rw [h.c1 hb, hkb]
  have HK := Lib.hid hkd
  have HKB := Lib.hid hkb
  have HL := Lib.hid hl
  have H := Lib.hid h
  have HD := Lib.hid hd
  have HB := Lib.hid hb
  clear h hd hb hkd hkb hl
  go_enter Try.func24, Try.ntmps24
  go_wp2_with fail
  refine (pair_ok H.out _ _ HD.out HB.out).mono ?_
  rintro e w' ⟨rfl, rfl⟩
  go_wp2_with fail
  refine (entry_none H.out HD.out HK.out _ HL.out).mono ?_
  rintro e w' ⟨rfl, rfl⟩
  go_wp2
  go_ret
  exact ⟨rfl, rfl⟩
set_option maxRecDepth 100000 in
set_option maxHeartbeats 400000 in
theorem mv_noname {w : World} {t bd bb : Nat} {S : Tab} {nd nb : Nd} (h : Rep w t S) (d b : Int) (hd : S d.toNat = some (bd, nd)) (hb : S b.toNat = some (bb, nb)) (s ar : ByteArray) (hkd : nd.kind = 1) (hkb : nb.kind = 1) {x bx : Nat} {nx : Nd} (hl : look nd.names s = some x) (hx : S x = some (bx, nx)) (hn : nameB ar = false) :
    Calls Try.prog 24 #[.pointer (some ⟨t, 0, none⟩), .int .i64 d, .string s, .int .i64 b, .string ar] w fun e w' => e = .returned (.int .i64 1) ∧ w = w' := by
  have c1 : w.cell? ⟨bd, 1, none⟩ = some (.int .i64 1) := by rw [h.c1 hd, hkd]
  have e1 : w.cell? ⟨bb, 1, none⟩ = some (.int .i64 1) := by rw [h.c1 hb, hkb]
  have HK := Lib.hid hkd
  have HKB := Lib.hid hkb
  have HL := Lib.hid hl
  have HX := Lib.hid hx
  have H := Lib.hid h
  have HD := Lib.hid hd
  have HB := Lib.hid hb
  clear h hd hb hkd hkb hl hx
  go_enter Try.func24, Try.ntmps24
  go_wp2_with fail
  refine (pair_ok H.out _ _ HD.out HB.out).mono ?_
  rintro e w' ⟨rfl, rfl⟩
  go_wp2_with fail
  refine (entry_some H.out HD.out HK.out _ _ HL.out HX.out).mono ?_
  rintro e w' ⟨rfl, rfl⟩
  go_wp2_with fail
  refine (name_any _ _).mono ?_
  rintro e w' ⟨rfl, rfl⟩
  go_wp2
  go_ret
  exact ⟨rfl, rfl⟩
set_option maxRecDepth 100000 in
set_option maxHeartbeats 400000 in
theorem mv_in {w : World} {t bd bb : Nat} {S : Tab} {nd nb : Nd} (h : Rep w t S) (d b : Int) (hd : S d.toNat = some (bd, nd)) (hb : S b.toNat = some (bb, nb)) (s ar : ByteArray) (hkd : nd.kind = 1) (hkb : nb.kind = 1) {x bx : Nat} {nx : Nd} (hl : look nd.names s = some x) (hx : S x = some (bx, nx)) (hn : nameB ar = true) (hkx : nx.kind = 1) (hwi : Calls Try.prog 51 #[.pointer (some ⟨t, 0, none⟩), .pointer (some ⟨bb, 0, none⟩), .pointer (some ⟨bx, 0, none⟩)] w fun e w' => e = .returned (.bool true) ∧ Below w.heap.size w w') :
    Calls Try.prog 24 #[.pointer (some ⟨t, 0, none⟩), .int .i64 d, .string s, .int .i64 b, .string ar] w fun e w' => e = .returned (.int .i64 8) ∧ Below w.heap.size w w' := by
  have c1 : w.cell? ⟨bd, 1, none⟩ = some (.int .i64 1) := by rw [h.c1 hd, hkd]
  have e1 : w.cell? ⟨bb, 1, none⟩ = some (.int .i64 1) := by rw [h.c1 hb, hkb]
  have HK := Lib.hid hkd
  have HKB := Lib.hid hkb
  have HL := Lib.hid hl
  have HX := Lib.hid hx
  have d1 : w.cell? ⟨bx, 1, none⟩ = some (.int .i64 1) := by rw [h.c1 hx, hkx]
  have HW := Lib.hid hwi
  have H := Lib.hid h
  have HD := Lib.hid hd
  have HB := Lib.hid hb
  clear h hd hb hkd hkb hl hx hkx hwi
  go_enter Try.func24, Try.ntmps24
  go_wp2_with fail
  refine (pair_ok H.out _ _ HD.out HB.out).mono ?_
  rintro e w' ⟨rfl, rfl⟩
  go_wp2_with fail
  refine (entry_some H.out HD.out HK.out _ _ HL.out HX.out).mono ?_
  rintro e w' ⟨rfl, rfl⟩
  go_wp2_with fail
  refine (name_any _ _).mono ?_
  rintro e w' ⟨rfl, rfl⟩
  go_wp2_with fail
  refine HW.out.mono ?_
  rintro e w' ⟨rfl, hbl⟩
  have HBL := Lib.hid hbl
  clear hbl
  go_wp2
  go_ret
  exact ⟨rfl, HBL.out⟩
set_option maxRecDepth 100000 in
set_option maxHeartbeats 400000 in
theorem mv_samed {w : World} {t bd bb : Nat} {S : Tab} {nd nb : Nd} (h : Rep w t S) (d b : Int) (hd : S d.toNat = some (bd, nd)) (hb : S b.toNat = some (bb, nb)) (s ar : ByteArray) (hkd : nd.kind = 1) (hkb : nb.kind = 1) {x bx : Nat} {nx : Nd} (hl : look nd.names s = some x) (hx : S x = some (bx, nx)) (hn : nameB ar = true) (hkx : nx.kind = 1) (hwi : Calls Try.prog 51 #[.pointer (some ⟨t, 0, none⟩), .pointer (some ⟨bb, 0, none⟩), .pointer (some ⟨bx, 0, none⟩)] w fun e w' => e = .returned (.bool false) ∧ Below w.heap.size w w') (hla : look nb.names ar = some x) :
    Calls Try.prog 24 #[.pointer (some ⟨t, 0, none⟩), .int .i64 d, .string s, .int .i64 b, .string ar] w fun e w' => e = .returned (.int .i64 0) ∧ Below w.heap.size w w' := by
  have c1 : w.cell? ⟨bd, 1, none⟩ = some (.int .i64 1) := by rw [h.c1 hd, hkd]
  have e1 : w.cell? ⟨bb, 1, none⟩ = some (.int .i64 1) := by rw [h.c1 hb, hkb]
  have HK := Lib.hid hkd
  have HKB := Lib.hid hkb
  have HL := Lib.hid hl
  have HX := Lib.hid hx
  have d1 : w.cell? ⟨bx, 1, none⟩ = some (.int .i64 1) := by rw [h.c1 hx, hkx]
  have HW := Lib.hid hwi
  have HKX := Lib.hid hkx
  have HLA := Lib.hid hla
  have H := Lib.hid h
  have HD := Lib.hid hd
  have HB := Lib.hid hb
  clear h hd hb hkd hkb hl hx hkx hwi hla
  go_enter Try.func24, Try.ntmps24
  go_wp2_with fail
  refine (pair_ok H.out _ _ HD.out HB.out).mono ?_
  rintro e w' ⟨rfl, rfl⟩
  go_wp2_with fail
  refine (entry_some H.out HD.out HK.out _ _ HL.out HX.out).mono ?_
  rintro e w' ⟨rfl, rfl⟩
  go_wp2_with fail
  refine (name_any _ _).mono ?_
  rintro e w' ⟨rfl, rfl⟩
  go_wp2_with fail
  refine HW.out.mono ?_
  rintro e wr ⟨rfl, hbl⟩
  have HMB := Lib.hid ((Mv.refl H.out).below hbl)
  have HBL := Lib.hid hbl
  clear hbl HW c1 e1 d1
  have HR := Lib.hid HMB.out.rep
  have d1 : wr.cell? ⟨bx, 1, none⟩ = some (.int .i64 1) := by rw [HR.out.c1 HX.out, HKX.out]
  have hq := eql_self wr bx
  go_wp2_with fail
  refine (entry_some HR.out HB.out HKB.out _ _ HLA.out HX.out).mono ?_
  rintro e w' ⟨rfl, rfl⟩
  go_wp2
  go_ret
  exact ⟨rfl, HBL.out⟩
set_option maxRecDepth 100000 in
set_option maxHeartbeats 400000 in
theorem mv_samef {w : World} {t bd bb : Nat} {S : Tab} {nd nb : Nd} (h : Rep w t S) (d b : Int) (hd : S d.toNat = some (bd, nd)) (hb : S b.toNat = some (bb, nb)) (s ar : ByteArray) (hkd : nd.kind = 1) (hkb : nb.kind = 1) {x bx : Nat} {nx : Nd} (hl : look nd.names s = some x) (hx : S x = some (bx, nx)) (hn : nameB ar = true) (hkx : ¬ nx.kind = 1) (hla : look nb.names ar = some x) :
    Calls Try.prog 24 #[.pointer (some ⟨t, 0, none⟩), .int .i64 d, .string s, .int .i64 b, .string ar] w fun e w' => e = .returned (.int .i64 0) ∧ Below w.heap.size w w' := by
  have c1 : w.cell? ⟨bd, 1, none⟩ = some (.int .i64 1) := by rw [h.c1 hd, hkd]
  have e1 : w.cell? ⟨bb, 1, none⟩ = some (.int .i64 1) := by rw [h.c1 hb, hkb]
  have HK := Lib.hid hkd
  have HKB := Lib.hid hkb
  have HL := Lib.hid hl
  have HX := Lib.hid hx
  have d1 := h.c1 hx
  have hkxb : (nx.kind == 1) = false := by simpa using hkx
  have HKX := Lib.hid hkx
  have HLA := Lib.hid hla
  have H := Lib.hid h
  have HD := Lib.hid hd
  have HB := Lib.hid hb
  clear h hd hb hkd hkb hl hx hkx hla
  go_enter Try.func24, Try.ntmps24
  go_wp2_with fail
  refine (pair_ok H.out _ _ HD.out HB.out).mono ?_
  rintro e w' ⟨rfl, rfl⟩
  go_wp2_with fail
  refine (entry_some H.out HD.out HK.out _ _ HL.out HX.out).mono ?_
  rintro e w' ⟨rfl, rfl⟩
  go_wp2_with fail
  refine (name_any _ _).mono ?_
  rintro e w' ⟨rfl, rfl⟩
  have HMB := Lib.hid (Mv.refl H.out)
  have HBL := Lib.hid (Below.refl w.heap.size w)
  have HR := Lib.hid H.out
  have hq := eql_self w bx
  go_wp2_with fail
  refine (entry_some HR.out HB.out HKB.out _ _ HLA.out HX.out).mono ?_
  rintro e w' ⟨rfl, rfl⟩
  go_wp2
  go_ret
  exact ⟨rfl, HBL.out⟩
set_option maxRecDepth 100000 in
set_option maxHeartbeats 400000 in
theorem mv_fulld {w : World} {t bd bb : Nat} {S : Tab} {nd nb : Nd} (h : Rep w t S) (d b : Int) (hd : S d.toNat = some (bd, nd)) (hb : S b.toNat = some (bb, nb)) (s ar : ByteArray) (hkd : nd.kind = 1) (hkb : nb.kind = 1) {x bx : Nat} {nx : Nd} (hl : look nd.names s = some x) (hx : S x = some (bx, nx)) (hn : nameB ar = true) (hkx : nx.kind = 1) (hwi : Calls Try.prog 51 #[.pointer (some ⟨t, 0, none⟩), .pointer (some ⟨bb, 0, none⟩), .pointer (some ⟨bx, 0, none⟩)] w fun e w' => e = .returned (.bool false) ∧ Below w.heap.size w w') (hla : look nb.names ar = none) (hdb : d.toNat ≠ b.toNat) (hfu : 40 ≤ nb.names.length) :
    Calls Try.prog 24 #[.pointer (some ⟨t, 0, none⟩), .int .i64 d, .string s, .int .i64 b, .string ar] w fun e w' => e = .returned (.int .i64 9) ∧ Below w.heap.size w w' := by
  have c1 : w.cell? ⟨bd, 1, none⟩ = some (.int .i64 1) := by rw [h.c1 hd, hkd]
  have e1 : w.cell? ⟨bb, 1, none⟩ = some (.int .i64 1) := by rw [h.c1 hb, hkb]
  have HK := Lib.hid hkd
  have HKB := Lib.hid hkb
  have HL := Lib.hid hl
  have HX := Lib.hid hx
  have d1 : w.cell? ⟨bx, 1, none⟩ = some (.int .i64 1) := by rw [h.c1 hx, hkx]
  have HW := Lib.hid hwi
  have HKX := Lib.hid hkx
  have HLA := Lib.hid hla
  obtain ⟨mb, hmb⟩ := h.dir_mp hb hkb
  have HMP := Lib.hid hmb
  have HDB : Hid (bd ≠ bb) := Lib.hid (fun e => hdb (h.inj _ _ _ _ _ (e ▸ hd) hb))
  have hn1 : 40 ≤ (nb.names.length : Int) := by omega
  have H := Lib.hid h
  have HD := Lib.hid hd
  have HB := Lib.hid hb
  clear h hd hb hkd hkb hl hx hkx hwi hla hmb hdb hfu
  go_enter Try.func24, Try.ntmps24
  go_wp2_with fail
  refine (pair_ok H.out _ _ HD.out HB.out).mono ?_
  rintro e w' ⟨rfl, rfl⟩
  go_wp2_with fail
  refine (entry_some H.out HD.out HK.out _ _ HL.out HX.out).mono ?_
  rintro e w' ⟨rfl, rfl⟩
  go_wp2_with fail
  refine (name_any _ _).mono ?_
  rintro e w' ⟨rfl, rfl⟩
  go_wp2_with fail
  refine HW.out.mono ?_
  rintro e wr ⟨rfl, hbl⟩
  have HMB := Lib.hid ((Mv.refl H.out).below hbl)
  have HBL := Lib.hid hbl
  clear hbl HW c1 e1 d1
  have HR := Lib.hid HMB.out.rep
  have d1 : wr.cell? ⟨bx, 1, none⟩ = some (.int .i64 1) := by rw [HR.out.c1 HX.out, HKX.out]
  have hq := fun (W : World) => eql_nil_some (P := Try.prog) W 68 ⟨bx, 0, none⟩ Try.underlying68
  have c10 : wr.cell? ⟨bb, 10, none⟩ = some (.map (some mb)) := by rw [HR.out.c10 HB.out, HMP.out]
  have hlen : ∀ ty, (Builtin.len_ #[84] ty #[.map (some mb)]).run Try.prog wr = .ok (.int .i64 nb.names.length) wr := fun ty => HMP.out ▸ HR.out.len HB.out ty
  have hne := neq_nodes (w := wr) (HR.out.node _ bd nd HD.out) (HR.out.node _ bb nb HB.out) HDB.out
  go_wp2_with fail
  refine (entry_none HR.out HB.out HKB.out _ HLA.out).mono ?_
  rintro e w' ⟨rfl, rfl⟩
  go_wp2
  go_ret
  exact ⟨rfl, HBL.out⟩
set_option maxRecDepth 100000 in
set_option maxHeartbeats 400000 in
theorem mv_fullf {w : World} {t bd bb : Nat} {S : Tab} {nd nb : Nd} (h : Rep w t S) (d b : Int) (hd : S d.toNat = some (bd, nd)) (hb : S b.toNat = some (bb, nb)) (s ar : ByteArray) (hkd : nd.kind = 1) (hkb : nb.kind = 1) {x bx : Nat} {nx : Nd} (hl : look nd.names s = some x) (hx : S x = some (bx, nx)) (hn : nameB ar = true) (hkx : ¬ nx.kind = 1) (hla : look nb.names ar = none) (hdb : d.toNat ≠ b.toNat) (hfu : 40 ≤ nb.names.length) :
    Calls Try.prog 24 #[.pointer (some ⟨t, 0, none⟩), .int .i64 d, .string s, .int .i64 b, .string ar] w fun e w' => e = .returned (.int .i64 9) ∧ Below w.heap.size w w' := by
  have c1 : w.cell? ⟨bd, 1, none⟩ = some (.int .i64 1) := by rw [h.c1 hd, hkd]
  have e1 : w.cell? ⟨bb, 1, none⟩ = some (.int .i64 1) := by rw [h.c1 hb, hkb]
  have HK := Lib.hid hkd
  have HKB := Lib.hid hkb
  have HL := Lib.hid hl
  have HX := Lib.hid hx
  have d1 := h.c1 hx
  have hkxb : (nx.kind == 1) = false := by simpa using hkx
  have HKX := Lib.hid hkx
  have HLA := Lib.hid hla
  obtain ⟨mb, hmb⟩ := h.dir_mp hb hkb
  have HMP := Lib.hid hmb
  have HDB : Hid (bd ≠ bb) := Lib.hid (fun e => hdb (h.inj _ _ _ _ _ (e ▸ hd) hb))
  have hn1 : 40 ≤ (nb.names.length : Int) := by omega
  have H := Lib.hid h
  have HD := Lib.hid hd
  have HB := Lib.hid hb
  clear h hd hb hkd hkb hl hx hkx hla hmb hdb hfu
  go_enter Try.func24, Try.ntmps24
  go_wp2_with fail
  refine (pair_ok H.out _ _ HD.out HB.out).mono ?_
  rintro e w' ⟨rfl, rfl⟩
  go_wp2_with fail
  refine (entry_some H.out HD.out HK.out _ _ HL.out HX.out).mono ?_
  rintro e w' ⟨rfl, rfl⟩
  go_wp2_with fail
  refine (name_any _ _).mono ?_
  rintro e w' ⟨rfl, rfl⟩
  have HMB := Lib.hid (Mv.refl H.out)
  have HBL := Lib.hid (Below.refl w.heap.size w)
  have HR := Lib.hid H.out
  have hq := fun (W : World) => eql_nil_some (P := Try.prog) W 68 ⟨bx, 0, none⟩ Try.underlying68
  have c10 : w.cell? ⟨bb, 10, none⟩ = some (.map (some mb)) := by rw [HR.out.c10 HB.out, HMP.out]
  have hlen : ∀ ty, (Builtin.len_ #[84] ty #[.map (some mb)]).run Try.prog w = .ok (.int .i64 nb.names.length) w := fun ty => HMP.out ▸ HR.out.len HB.out ty
  have hne := neq_nodes (w := w) (HR.out.node _ bd nd HD.out) (HR.out.node _ bb nb HB.out) HDB.out
  go_wp2_with fail
  refine (entry_none HR.out HB.out HKB.out _ HLA.out).mono ?_
  rintro e w' ⟨rfl, rfl⟩
  go_wp2
  go_ret
  exact ⟨rfl, HBL.out⟩
set_option maxRecDepth 100000 in
set_option maxHeartbeats 400000 in
theorem mv_kindsd {w : World} {t bd bb : Nat} {S : Tab} {nd nb : Nd} (h : Rep w t S) (d b : Int) (hd : S d.toNat = some (bd, nd)) (hb : S b.toNat = some (bb, nb)) (s ar : ByteArray) (hkd : nd.kind = 1) (hkb : nb.kind = 1) {x bx : Nat} {nx : Nd} (hl : look nd.names s = some x) (hx : S x = some (bx, nx)) (hn : nameB ar = true) (hkx : nx.kind = 1) (hwi : Calls Try.prog 51 #[.pointer (some ⟨t, 0, none⟩), .pointer (some ⟨bb, 0, none⟩), .pointer (some ⟨bx, 0, none⟩)] w fun e w' => e = .returned (.bool false) ∧ Below w.heap.size w w') {y by_ : Nat} {ny : Nd} (hla : look nb.names ar = some y) (hy : S y = some (by_, ny)) (hyx : y ≠ x) (hky : ¬ ny.kind = 1) :
    Calls Try.prog 24 #[.pointer (some ⟨t, 0, none⟩), .int .i64 d, .string s, .int .i64 b, .string ar] w fun e w' => e = .returned (.int .i64 7) ∧ Below w.heap.size w w' := by
  have c1 : w.cell? ⟨bd, 1, none⟩ = some (.int .i64 1) := by rw [h.c1 hd, hkd]
  have e1 : w.cell? ⟨bb, 1, none⟩ = some (.int .i64 1) := by rw [h.c1 hb, hkb]
  have HK := Lib.hid hkd
  have HKB := Lib.hid hkb
  have HL := Lib.hid hl
  have HX := Lib.hid hx
  have d1 : w.cell? ⟨bx, 1, none⟩ = some (.int .i64 1) := by rw [h.c1 hx, hkx]
  have HW := Lib.hid hwi
  have HKX := Lib.hid hkx
  have HLA := Lib.hid hla
  have HY := Lib.hid hy
  have HYX : Hid (by_ ≠ bx) := Lib.hid (fun e => hyx (h.inj _ _ _ _ _ (e ▸ hy) hx))
  have HKY := Lib.hid hky
  have H := Lib.hid h
  have HD := Lib.hid hd
  have HB := Lib.hid hb
  clear h hd hb hkd hkb hl hx hkx hwi hla hy hyx hky
  go_enter Try.func24, Try.ntmps24
  go_wp2_with fail
  refine (pair_ok H.out _ _ HD.out HB.out).mono ?_
  rintro e w' ⟨rfl, rfl⟩
  go_wp2_with fail
  refine (entry_some H.out HD.out HK.out _ _ HL.out HX.out).mono ?_
  rintro e w' ⟨rfl, rfl⟩
  go_wp2_with fail
  refine (name_any _ _).mono ?_
  rintro e w' ⟨rfl, rfl⟩
  go_wp2_with fail
  refine HW.out.mono ?_
  rintro e wr ⟨rfl, hbl⟩
  have HMB := Lib.hid ((Mv.refl H.out).below hbl)
  have HBL := Lib.hid hbl
  clear hbl HW c1 e1 d1
  have HR := Lib.hid HMB.out.rep
  have d1 : wr.cell? ⟨bx, 1, none⟩ = some (.int .i64 1) := by rw [HR.out.c1 HX.out, HKX.out]
  have hq := eql_nodes (w := wr) (HR.out.node _ by_ ny HY.out) (HR.out.node _ bx nx HX.out) HYX.out
  have g1 := HR.out.c1 HY.out
  have hkyb : (ny.kind == 1) = false := by have := HKY.out; simpa using this
  go_wp2_with fail
  refine (entry_some HR.out HB.out HKB.out _ _ HLA.out HY.out).mono ?_
  rintro e w' ⟨rfl, rfl⟩
  go_wp2
  go_quiet (fail)
  go_wp2
  go_ret
  exact ⟨rfl, belowDrewN HBL.out _⟩
set_option maxRecDepth 100000 in
set_option maxHeartbeats 400000 in
theorem mv_kindsf {w : World} {t bd bb : Nat} {S : Tab} {nd nb : Nd} (h : Rep w t S) (d b : Int) (hd : S d.toNat = some (bd, nd)) (hb : S b.toNat = some (bb, nb)) (s ar : ByteArray) (hkd : nd.kind = 1) (hkb : nb.kind = 1) {x bx : Nat} {nx : Nd} (hl : look nd.names s = some x) (hx : S x = some (bx, nx)) (hn : nameB ar = true) (hkx : ¬ nx.kind = 1) {y by_ : Nat} {ny : Nd} (hla : look nb.names ar = some y) (hy : S y = some (by_, ny)) (hyx : y ≠ x) (hky : ny.kind = 1) :
    Calls Try.prog 24 #[.pointer (some ⟨t, 0, none⟩), .int .i64 d, .string s, .int .i64 b, .string ar] w fun e w' => e = .returned (.int .i64 7) ∧ Below w.heap.size w w' := by
  have c1 : w.cell? ⟨bd, 1, none⟩ = some (.int .i64 1) := by rw [h.c1 hd, hkd]
  have e1 : w.cell? ⟨bb, 1, none⟩ = some (.int .i64 1) := by rw [h.c1 hb, hkb]
  have HK := Lib.hid hkd
  have HKB := Lib.hid hkb
  have HL := Lib.hid hl
  have HX := Lib.hid hx
  have d1 := h.c1 hx
  have hkxb : (nx.kind == 1) = false := by simpa using hkx
  have HKX := Lib.hid hkx
  have HLA := Lib.hid hla
  have HY := Lib.hid hy
  have HYX : Hid (by_ ≠ bx) := Lib.hid (fun e => hyx (h.inj _ _ _ _ _ (e ▸ hy) hx))
  have HKY := Lib.hid hky
  have H := Lib.hid h
  have HD := Lib.hid hd
  have HB := Lib.hid hb
  clear h hd hb hkd hkb hl hx hkx hla hy hyx hky
  go_enter Try.func24, Try.ntmps24
  go_wp2_with fail
  refine (pair_ok H.out _ _ HD.out HB.out).mono ?_
  rintro e w' ⟨rfl, rfl⟩
  go_wp2_with fail
  refine (entry_some H.out HD.out HK.out _ _ HL.out HX.out).mono ?_
  rintro e w' ⟨rfl, rfl⟩
  go_wp2_with fail
  refine (name_any _ _).mono ?_
  rintro e w' ⟨rfl, rfl⟩
  have HMB := Lib.hid (Mv.refl H.out)
  have HBL := Lib.hid (Below.refl w.heap.size w)
  have HR := Lib.hid H.out
  have hq := eql_nodes (w := w) (HR.out.node _ by_ ny HY.out) (HR.out.node _ bx nx HX.out) HYX.out
  have g1 : w.cell? ⟨by_, 1, none⟩ = some (.int .i64 1) := by rw [HR.out.c1 HY.out, HKY.out]
  go_wp2_with fail
  refine (entry_some HR.out HB.out HKB.out _ _ HLA.out HY.out).mono ?_
  rintro e w' ⟨rfl, rfl⟩
  go_wp2
  go_quiet (fail)
  go_wp2
  go_ret
  exact ⟨rfl, belowDrewN HBL.out _⟩
set_option maxRecDepth 100000 in
set_option maxHeartbeats 400000 in
theorem mv_busyd {w : World} {t bd bb : Nat} {S : Tab} {nd nb : Nd} (h : Rep w t S) (d b : Int) (hd : S d.toNat = some (bd, nd)) (hb : S b.toNat = some (bb, nb)) (s ar : ByteArray) (hkd : nd.kind = 1) (hkb : nb.kind = 1) {x bx : Nat} {nx : Nd} (hl : look nd.names s = some x) (hx : S x = some (bx, nx)) (hn : nameB ar = true) (hkx : nx.kind = 1) (hwi : Calls Try.prog 51 #[.pointer (some ⟨t, 0, none⟩), .pointer (some ⟨bb, 0, none⟩), .pointer (some ⟨bx, 0, none⟩)] w fun e w' => e = .returned (.bool false) ∧ Below w.heap.size w w') {y by_ : Nat} {ny : Nd} (hla : look nb.names ar = some y) (hy : S y = some (by_, ny)) (hyx : y ≠ x) (hny : 0 < ny.names.length) (hky : ny.kind = 1) :
    Calls Try.prog 24 #[.pointer (some ⟨t, 0, none⟩), .int .i64 d, .string s, .int .i64 b, .string ar] w fun e w' => e = .returned (.int .i64 8) ∧ Below w.heap.size w w' := by
  have c1 : w.cell? ⟨bd, 1, none⟩ = some (.int .i64 1) := by rw [h.c1 hd, hkd]
  have e1 : w.cell? ⟨bb, 1, none⟩ = some (.int .i64 1) := by rw [h.c1 hb, hkb]
  have HK := Lib.hid hkd
  have HKB := Lib.hid hkb
  have HL := Lib.hid hl
  have HX := Lib.hid hx
  have d1 : w.cell? ⟨bx, 1, none⟩ = some (.int .i64 1) := by rw [h.c1 hx, hkx]
  have HW := Lib.hid hwi
  have HKX := Lib.hid hkx
  have HLA := Lib.hid hla
  have HY := Lib.hid hy
  have HYX : Hid (by_ ≠ bx) := Lib.hid (fun e => hyx (h.inj _ _ _ _ _ (e ▸ hy) hx))
  have HKY := Lib.hid hky
  have hny1 : 0 < (ny.names.length : Int) := by omega
  have H := Lib.hid h
  have HD := Lib.hid hd
  have HB := Lib.hid hb
  clear h hd hb hkd hkb hl hx hkx hwi hla hy hyx hky hny
  go_enter Try.func24, Try.ntmps24
  go_wp2_with fail
  refine (pair_ok H.out _ _ HD.out HB.out).mono ?_
  rintro e w' ⟨rfl, rfl⟩
  go_wp2_with fail
  refine (entry_some H.out HD.out HK.out _ _ HL.out HX.out).mono ?_
  rintro e w' ⟨rfl, rfl⟩
  go_wp2_with fail
  refine (name_any _ _).mono ?_
  rintro e w' ⟨rfl, rfl⟩
  go_wp2_with fail
  refine HW.out.mono ?_
  rintro e wr ⟨rfl, hbl⟩
  have HMB := Lib.hid ((Mv.refl H.out).below hbl)
  have HBL := Lib.hid hbl
  clear hbl HW c1 e1 d1
  have HR := Lib.hid HMB.out.rep
  have d1 : wr.cell? ⟨bx, 1, none⟩ = some (.int .i64 1) := by rw [HR.out.c1 HX.out, HKX.out]
  have hq := eql_nodes (w := wr) (HR.out.node _ by_ ny HY.out) (HR.out.node _ bx nx HX.out) HYX.out
  have g1 : wr.cell? ⟨by_, 1, none⟩ = some (.int .i64 1) := by rw [HR.out.c1 HY.out, HKY.out]
  have g10 := HR.out.c10 HY.out
  have hleny : ∀ j ty, (Builtin.len_ #[84] ty #[.map ny.mp]).run Try.prog (wr.drewN j) = .ok (.int .i64 ny.names.length) (wr.drewN j) := fun j ty => by have e := (HR.out.drewN j).len HY.out ty; exact e
  go_wp2_with fail
  refine (entry_some HR.out HB.out HKB.out _ _ HLA.out HY.out).mono ?_
  rintro e w' ⟨rfl, rfl⟩
  go_wp2
  go_quiet (fail)
  go_wp2
  go_ret
  exact ⟨rfl, belowDrewN HBL.out _⟩
set_option maxRecDepth 100000 in
set_option maxHeartbeats 400000 in
theorem mv_busyf {w : World} {t bd bb : Nat} {S : Tab} {nd nb : Nd} (h : Rep w t S) (d b : Int) (hd : S d.toNat = some (bd, nd)) (hb : S b.toNat = some (bb, nb)) (s ar : ByteArray) (hkd : nd.kind = 1) (hkb : nb.kind = 1) {x bx : Nat} {nx : Nd} (hl : look nd.names s = some x) (hx : S x = some (bx, nx)) (hn : nameB ar = true) (hkx : ¬ nx.kind = 1) {y by_ : Nat} {ny : Nd} (hla : look nb.names ar = some y) (hy : S y = some (by_, ny)) (hyx : y ≠ x) (hny : 0 < ny.names.length) (hky : ¬ ny.kind = 1) :
    Calls Try.prog 24 #[.pointer (some ⟨t, 0, none⟩), .int .i64 d, .string s, .int .i64 b, .string ar] w fun e w' => e = .returned (.int .i64 8) ∧ Below w.heap.size w w' := by
  have c1 : w.cell? ⟨bd, 1, none⟩ = some (.int .i64 1) := by rw [h.c1 hd, hkd]
  have e1 : w.cell? ⟨bb, 1, none⟩ = some (.int .i64 1) := by rw [h.c1 hb, hkb]
  have HK := Lib.hid hkd
  have HKB := Lib.hid hkb
  have HL := Lib.hid hl
  have HX := Lib.hid hx
  have d1 := h.c1 hx
  have hkxb : (nx.kind == 1) = false := by simpa using hkx
  have HKX := Lib.hid hkx
  have HLA := Lib.hid hla
  have HY := Lib.hid hy
  have HYX : Hid (by_ ≠ bx) := Lib.hid (fun e => hyx (h.inj _ _ _ _ _ (e ▸ hy) hx))
  have HKY := Lib.hid hky
  have hny1 : 0 < (ny.names.length : Int) := by omega
  have H := Lib.hid h
  have HD := Lib.hid hd
  have HB := Lib.hid hb
  clear h hd hb hkd hkb hl hx hkx hla hy hyx hky hny
  go_enter Try.func24, Try.ntmps24
  go_wp2_with fail
  refine (pair_ok H.out _ _ HD.out HB.out).mono ?_
  rintro e w' ⟨rfl, rfl⟩
  go_wp2_with fail
  refine (entry_some H.out HD.out HK.out _ _ HL.out HX.out).mono ?_
  rintro e w' ⟨rfl, rfl⟩
  go_wp2_with fail
  refine (name_any _ _).mono ?_
  rintro e w' ⟨rfl, rfl⟩
  have HMB := Lib.hid (Mv.refl H.out)
  have HBL := Lib.hid (Below.refl w.heap.size w)
  have HR := Lib.hid H.out
  have hq := eql_nodes (w := w) (HR.out.node _ by_ ny HY.out) (HR.out.node _ bx nx HX.out) HYX.out
  have g1 := HR.out.c1 HY.out
  have hkyb : (ny.kind == 1) = false := by have := HKY.out; simpa using this
  have g10 := HR.out.c10 HY.out
  have hleny : ∀ j ty, (Builtin.len_ #[84] ty #[.map ny.mp]).run Try.prog (w.drewN j) = .ok (.int .i64 ny.names.length) (w.drewN j) := fun j ty => by have e := (HR.out.drewN j).len HY.out ty; exact e
  go_wp2_with fail
  refine (entry_some HR.out HB.out HKB.out _ _ HLA.out HY.out).mono ?_
  rintro e w' ⟨rfl, rfl⟩
  go_wp2
  go_quiet (fail)
  go_wp2
  go_ret
  exact ⟨rfl, belowDrewN HBL.out _⟩
set_option maxRecDepth 100000 in
set_option maxHeartbeats 800000 in
theorem mv_oksd {w : World} {t bd bb : Nat} {S : Tab} {nd nb : Nd} (h : Rep w t S) (d b : Int) (hd : S d.toNat = some (bd, nd)) (hb : S b.toNat = some (bb, nb)) (s ar : ByteArray) (hkd : nd.kind = 1) (hkb : nb.kind = 1) {x bx : Nat} {nx : Nd} (hl : look nd.names s = some x) (hx : S x = some (bx, nx)) (hn : nameB ar = true) (hkx : nx.kind = 1) (hwi : Calls Try.prog 51 #[.pointer (some ⟨t, 0, none⟩), .pointer (some ⟨bb, 0, none⟩), .pointer (some ⟨bx, 0, none⟩)] w fun e w' => e = .returned (.bool false) ∧ Below w.heap.size w w') (hla : look nb.names ar = none) (hdb : d.toNat = b.toNat) (hxd : x ≠ d.toNat) (hxb : x ≠ b.toNat) {nb1 : Nd} (hnb1 : nb1 = (if b.toNat = d.toNat then { nd with names := delL nd.names s } else nb)) (h40 : (delL nb1.names ar).length < 40) :
    Calls Try.prog 24 #[.pointer (some ⟨t, 0, none⟩), .int .i64 d, .string s, .int .i64 b, .string ar] w fun e w' => e = .returned (.int .i64 0) ∧ ∃ l2 : List (ByteArray × Nat), l2.Perm ((ar, x) :: delL nb1.names ar) ∧ Mv w t S w' (movedS S d.toNat b.toNat x bd nd bb nb1 bx nx s l2) := by
  have c1 : w.cell? ⟨bd, 1, none⟩ = some (.int .i64 1) := by rw [h.c1 hd, hkd]
  have e1 : w.cell? ⟨bb, 1, none⟩ = some (.int .i64 1) := by rw [h.c1 hb, hkb]
  have HK := Lib.hid hkd
  have HKB := Lib.hid hkb
  have HL := Lib.hid hl
  have HX := Lib.hid hx
  have d1 : w.cell? ⟨bx, 1, none⟩ = some (.int .i64 1) := by rw [h.c1 hx, hkx]
  have HW := Lib.hid hwi
  have HKX := Lib.hid hkx
  have HLA := Lib.hid hla
  have HN1 := Lib.hid hnb1
  have HXD := Lib.hid hxd
  have HXB := Lib.hid hxb
  have H40 := Lib.hid h40
  have HBP : Hid (((b.toNat : Nat) : Int) = b) := Lib.hid (by have := h.rng _ _ hb; omega)
  have HDB : Hid (bb = bd) := Lib.hid (by rw [hdb, hb] at hd; exact (Prod.mk.inj (Option.some.inj hd)).1)
  have H := Lib.hid h
  have HD := Lib.hid hd
  have HB := Lib.hid hb
  clear h hd hb hkd hkb hl hx hkx hwi hla hdb hxd hxb h40 hnb1
  go_enter Try.func24, Try.ntmps24
  go_wp2_with fail
  refine (pair_ok H.out _ _ HD.out HB.out).mono ?_
  rintro e w' ⟨rfl, rfl⟩
  go_wp2_with fail
  refine (entry_some H.out HD.out HK.out _ _ HL.out HX.out).mono ?_
  rintro e w' ⟨rfl, rfl⟩
  go_wp2_with fail
  refine (name_any _ _).mono ?_
  rintro e w' ⟨rfl, rfl⟩
  go_wp2_with fail
  refine HW.out.mono ?_
  rintro e wr ⟨rfl, hbl⟩
  have HMB := Lib.hid ((Mv.refl H.out).below hbl)
  have HBL := Lib.hid hbl
  clear hbl HW c1 e1 d1
  have HR := Lib.hid HMB.out.rep
  have d1 : wr.cell? ⟨bx, 1, none⟩ = some (.int .i64 1) := by rw [HR.out.c1 HX.out, HKX.out]
  have hq := fun (W : World) => eql_nil_some (P := Try.prog) W 68 ⟨bx, 0, none⟩ Try.underlying68
  have hne : (binOp .neq 68 (.pointer (some ⟨bd, 0, none⟩)) (.pointer (some ⟨bb, 0, none⟩))).run Try.prog wr = .ok (.bool false) wr := by rw [HDB.out]; exact neq_self wr bd
  go_wp2_with fail
  refine (entry_none HR.out HB.out HKB.out _ HLA.out).mono ?_
  rintro e w' ⟨rfl, rfl⟩
  obtain ⟨m, m2, O1, O2, l2, hmw⟩ := mvW_of HR.out HD.out HB.out HX.out HK.out HKB.out HXD.out HXB.out s ar HL.out HN1.out H40.out
  have HM := Lib.hid hmw
  have q1 := hmw.rdel
  have q2 := hmw.rupd
  have q3 := hmw.c10
  have q4 := hmw.c0
  have q5 : ∀ j, (((wr.drewN j).putObj m O1).drew.putObj m2 O2).cell? ⟨bx, 1, none⟩ = some (.int .i64 1) := fun j => by rw [(HM.out.at_x HX.out HXD.out HXB.out 1 j).1]; show some (Value.int .i64 nx.kind) = _; rw [HKX.out]
  have q6 : ∀ j, (((wr.drewN j).putObj m O1).drew.putObj m2 O2).cell? ⟨bx, 11, none⟩ = some (.int .i64 (nx.parent : Int)) := fun j => (HM.out.at_x HX.out HXD.out HXB.out 11 j).1
  have q7 : ∀ j, (((wr.drewN j).putObj m O1).drew.putObj m2 O2).frozen? ⟨bx, 11, none⟩ = false := fun j => (HM.out.at_x HX.out HXD.out HXB.out 11 j).2
  have c10d : wr.cell? ⟨bd, 10, none⟩ = some (.map (some m)) := by rw [HR.out.c10 HD.out, HM.out.mpd]
  clear hmw
  go_wp2
  go_quiet (fail)
  go_wp2
  go_region
  go_wp2
  go_ret
  exact ⟨rfl, l2, HM.out.perm, by have e := fun j => HMB.out.trans ((HM.out.fin HX.out HXD.out HXB.out j).1 HKX.out); simp only [HBP.out] at e; exact e _⟩
set_option maxRecDepth 100000 in
set_option maxHeartbeats 800000 in
theorem mv_oksf {w : World} {t bd bb : Nat} {S : Tab} {nd nb : Nd} (h : Rep w t S) (d b : Int) (hd : S d.toNat = some (bd, nd)) (hb : S b.toNat = some (bb, nb)) (s ar : ByteArray) (hkd : nd.kind = 1) (hkb : nb.kind = 1) {x bx : Nat} {nx : Nd} (hl : look nd.names s = some x) (hx : S x = some (bx, nx)) (hn : nameB ar = true) (hkx : ¬ nx.kind = 1) (hla : look nb.names ar = none) (hdb : d.toNat = b.toNat) (hxd : x ≠ d.toNat) (hxb : x ≠ b.toNat) {nb1 : Nd} (hnb1 : nb1 = (if b.toNat = d.toNat then { nd with names := delL nd.names s } else nb)) (h40 : (delL nb1.names ar).length < 40) :
    Calls Try.prog 24 #[.pointer (some ⟨t, 0, none⟩), .int .i64 d, .string s, .int .i64 b, .string ar] w fun e w' => e = .returned (.int .i64 0) ∧ ∃ l2 : List (ByteArray × Nat), l2.Perm ((ar, x) :: delL nb1.names ar) ∧ Mv w t S w' (movedS S d.toNat b.toNat x bd nd bb nb1 bx nx s l2) := by
  have c1 : w.cell? ⟨bd, 1, none⟩ = some (.int .i64 1) := by rw [h.c1 hd, hkd]
  have e1 : w.cell? ⟨bb, 1, none⟩ = some (.int .i64 1) := by rw [h.c1 hb, hkb]
  have HK := Lib.hid hkd
  have HKB := Lib.hid hkb
  have HL := Lib.hid hl
  have HX := Lib.hid hx
  have d1 := h.c1 hx
  have hkxb : (nx.kind == 1) = false := by simpa using hkx
  have HKX := Lib.hid hkx
  have HLA := Lib.hid hla
  have HN1 := Lib.hid hnb1
  have HXD := Lib.hid hxd
  have HXB := Lib.hid hxb
  have H40 := Lib.hid h40
  have HBP : Hid (((b.toNat : Nat) : Int) = b) := Lib.hid (by have := h.rng _ _ hb; omega)
  have HDB : Hid (bb = bd) := Lib.hid (by rw [hdb, hb] at hd; exact (Prod.mk.inj (Option.some.inj hd)).1)
  have H := Lib.hid h
  have HD := Lib.hid hd
  have HB := Lib.hid hb
  clear h hd hb hkd hkb hl hx hkx hla hdb hxd hxb h40 hnb1
  go_enter Try.func24, Try.ntmps24
  go_wp2_with fail
  refine (pair_ok H.out _ _ HD.out HB.out).mono ?_
  rintro e w' ⟨rfl, rfl⟩
  go_wp2_with fail
  refine (entry_some H.out HD.out HK.out _ _ HL.out HX.out).mono ?_
  rintro e w' ⟨rfl, rfl⟩
  go_wp2_with fail
  refine (name_any _ _).mono ?_
  rintro e w' ⟨rfl, rfl⟩
  have HMB := Lib.hid (Mv.refl H.out)
  have HBL := Lib.hid (Below.refl w.heap.size w)
  have HR := Lib.hid H.out
  have hq := fun (W : World) => eql_nil_some (P := Try.prog) W 68 ⟨bx, 0, none⟩ Try.underlying68
  have hne : (binOp .neq 68 (.pointer (some ⟨bd, 0, none⟩)) (.pointer (some ⟨bb, 0, none⟩))).run Try.prog w = .ok (.bool false) w := by rw [HDB.out]; exact neq_self w bd
  go_wp2_with fail
  refine (entry_none HR.out HB.out HKB.out _ HLA.out).mono ?_
  rintro e w' ⟨rfl, rfl⟩
  obtain ⟨m, m2, O1, O2, l2, hmw⟩ := mvW_of HR.out HD.out HB.out HX.out HK.out HKB.out HXD.out HXB.out s ar HL.out HN1.out H40.out
  have HM := Lib.hid hmw
  have q1 := hmw.rdel
  have q2 := hmw.rupd
  have q3 := hmw.c10
  have q4 := hmw.c0
  have q5 : ∀ j, (((w.drewN j).putObj m O1).drew.putObj m2 O2).cell? ⟨bx, 1, none⟩ = some (.int .i64 nx.kind) := fun j => by rw [(HM.out.at_x HX.out HXD.out HXB.out 1 j).1]; rfl
  have c10d : w.cell? ⟨bd, 10, none⟩ = some (.map (some m)) := by rw [HR.out.c10 HD.out, HM.out.mpd]
  clear hmw
  go_wp2
  go_quiet (fail)
  go_wp2
  go_region
  go_wp2
  go_ret
  exact ⟨rfl, l2, HM.out.perm, by have e := fun j => HMB.out.trans ((HM.out.fin HX.out HXD.out HXB.out j).2 HKX.out); exact e _⟩
set_option maxRecDepth 100000 in
set_option maxHeartbeats 800000 in
theorem mv_oknd {w : World} {t bd bb : Nat} {S : Tab} {nd nb : Nd} (h : Rep w t S) (d b : Int) (hd : S d.toNat = some (bd, nd)) (hb : S b.toNat = some (bb, nb)) (s ar : ByteArray) (hkd : nd.kind = 1) (hkb : nb.kind = 1) {x bx : Nat} {nx : Nd} (hl : look nd.names s = some x) (hx : S x = some (bx, nx)) (hn : nameB ar = true) (hkx : nx.kind = 1) (hwi : Calls Try.prog 51 #[.pointer (some ⟨t, 0, none⟩), .pointer (some ⟨bb, 0, none⟩), .pointer (some ⟨bx, 0, none⟩)] w fun e w' => e = .returned (.bool false) ∧ Below w.heap.size w w') (hla : look nb.names ar = none) (hdb : d.toNat ≠ b.toNat) (hfu : nb.names.length < 40) (hxd : x ≠ d.toNat) (hxb : x ≠ b.toNat) {nb1 : Nd} (hnb1 : nb1 = (if b.toNat = d.toNat then { nd with names := delL nd.names s } else nb)) (h40 : (delL nb1.names ar).length < 40) :
    Calls Try.prog 24 #[.pointer (some ⟨t, 0, none⟩), .int .i64 d, .string s, .int .i64 b, .string ar] w fun e w' => e = .returned (.int .i64 0) ∧ ∃ l2 : List (ByteArray × Nat), l2.Perm ((ar, x) :: delL nb1.names ar) ∧ Mv w t S w' (movedS S d.toNat b.toNat x bd nd bb nb1 bx nx s l2) := by
  have c1 : w.cell? ⟨bd, 1, none⟩ = some (.int .i64 1) := by rw [h.c1 hd, hkd]
  have e1 : w.cell? ⟨bb, 1, none⟩ = some (.int .i64 1) := by rw [h.c1 hb, hkb]
  have HK := Lib.hid hkd
  have HKB := Lib.hid hkb
  have HL := Lib.hid hl
  have HX := Lib.hid hx
  have d1 : w.cell? ⟨bx, 1, none⟩ = some (.int .i64 1) := by rw [h.c1 hx, hkx]
  have HW := Lib.hid hwi
  have HKX := Lib.hid hkx
  have HLA := Lib.hid hla
  have HN1 := Lib.hid hnb1
  have HXD := Lib.hid hxd
  have HXB := Lib.hid hxb
  have H40 := Lib.hid h40
  have HBP : Hid (((b.toNat : Nat) : Int) = b) := Lib.hid (by have := h.rng _ _ hb; omega)
  obtain ⟨mb, hmb⟩ := h.dir_mp hb hkb
  have HMP := Lib.hid hmb
  have HDB : Hid (bd ≠ bb) := Lib.hid (fun e => hdb (h.inj _ _ _ _ _ (e ▸ hd) hb))
  have hn1 : (nb.names.length : Int) < 40 := by omega
  have H := Lib.hid h
  have HD := Lib.hid hd
  have HB := Lib.hid hb
  clear h hd hb hkd hkb hl hx hkx hwi hla hmb hdb hfu hxd hxb h40 hnb1
  go_enter Try.func24, Try.ntmps24
  go_wp2_with fail
  refine (pair_ok H.out _ _ HD.out HB.out).mono ?_
  rintro e w' ⟨rfl, rfl⟩
  go_wp2_with fail
  refine (entry_some H.out HD.out HK.out _ _ HL.out HX.out).mono ?_
  rintro e w' ⟨rfl, rfl⟩
  go_wp2_with fail
  refine (name_any _ _).mono ?_
  rintro e w' ⟨rfl, rfl⟩
  go_wp2_with fail
  refine HW.out.mono ?_
  rintro e wr ⟨rfl, hbl⟩
  have HMB := Lib.hid ((Mv.refl H.out).below hbl)
  have HBL := Lib.hid hbl
  clear hbl HW c1 e1 d1
  have HR := Lib.hid HMB.out.rep
  have d1 : wr.cell? ⟨bx, 1, none⟩ = some (.int .i64 1) := by rw [HR.out.c1 HX.out, HKX.out]
  have hq := fun (W : World) => eql_nil_some (P := Try.prog) W 68 ⟨bx, 0, none⟩ Try.underlying68
  have c10 : wr.cell? ⟨bb, 10, none⟩ = some (.map (some mb)) := by rw [HR.out.c10 HB.out, HMP.out]
  have hlen : ∀ ty, (Builtin.len_ #[84] ty #[.map (some mb)]).run Try.prog wr = .ok (.int .i64 nb.names.length) wr := fun ty => HMP.out ▸ HR.out.len HB.out ty
  have hne := neq_nodes (w := wr) (HR.out.node _ bd nd HD.out) (HR.out.node _ bb nb HB.out) HDB.out
  go_wp2_with fail
  refine (entry_none HR.out HB.out HKB.out _ HLA.out).mono ?_
  rintro e w' ⟨rfl, rfl⟩
  obtain ⟨m, m2, O1, O2, l2, hmw⟩ := mvW_of HR.out HD.out HB.out HX.out HK.out HKB.out HXD.out HXB.out s ar HL.out HN1.out H40.out
  have HM := Lib.hid hmw
  have q1 := hmw.rdel
  have q2 := hmw.rupd
  have q3 := hmw.c10
  have q4 := hmw.c0
  have q5 : ∀ j, (((wr.drewN j).putObj m O1).drew.putObj m2 O2).cell? ⟨bx, 1, none⟩ = some (.int .i64 1) := fun j => by rw [(HM.out.at_x HX.out HXD.out HXB.out 1 j).1]; show some (Value.int .i64 nx.kind) = _; rw [HKX.out]
  have q6 : ∀ j, (((wr.drewN j).putObj m O1).drew.putObj m2 O2).cell? ⟨bx, 11, none⟩ = some (.int .i64 (nx.parent : Int)) := fun j => (HM.out.at_x HX.out HXD.out HXB.out 11 j).1
  have q7 : ∀ j, (((wr.drewN j).putObj m O1).drew.putObj m2 O2).frozen? ⟨bx, 11, none⟩ = false := fun j => (HM.out.at_x HX.out HXD.out HXB.out 11 j).2
  have c10d : wr.cell? ⟨bd, 10, none⟩ = some (.map (some m)) := by rw [HR.out.c10 HD.out, HM.out.mpd]
  clear hmw
  go_wp2
  go_quiet (fail)
  go_wp2
  go_region
  go_wp2
  go_ret
  exact ⟨rfl, l2, HM.out.perm, by have e := fun j => HMB.out.trans ((HM.out.fin HX.out HXD.out HXB.out j).1 HKX.out); simp only [HBP.out] at e; exact e _⟩
set_option maxRecDepth 100000 in
set_option maxHeartbeats 800000 in
theorem mv_oknf {w : World} {t bd bb : Nat} {S : Tab} {nd nb : Nd} (h : Rep w t S) (d b : Int) (hd : S d.toNat = some (bd, nd)) (hb : S b.toNat = some (bb, nb)) (s ar : ByteArray) (hkd : nd.kind = 1) (hkb : nb.kind = 1) {x bx : Nat} {nx : Nd} (hl : look nd.names s = some x) (hx : S x = some (bx, nx)) (hn : nameB ar = true) (hkx : ¬ nx.kind = 1) (hla : look nb.names ar = none) (hdb : d.toNat ≠ b.toNat) (hfu : nb.names.length < 40) (hxd : x ≠ d.toNat) (hxb : x ≠ b.toNat) {nb1 : Nd} (hnb1 : nb1 = (if b.toNat = d.toNat then { nd with names := delL nd.names s } else nb)) (h40 : (delL nb1.names ar).length < 40) :
    Calls Try.prog 24 #[.pointer (some ⟨t, 0, none⟩), .int .i64 d, .string s, .int .i64 b, .string ar] w fun e w' => e = .returned (.int .i64 0) ∧ ∃ l2 : List (ByteArray × Nat), l2.Perm ((ar, x) :: delL nb1.names ar) ∧ Mv w t S w' (movedS S d.toNat b.toNat x bd nd bb nb1 bx nx s l2) := by
  have c1 : w.cell? ⟨bd, 1, none⟩ = some (.int .i64 1) := by rw [h.c1 hd, hkd]
  have e1 : w.cell? ⟨bb, 1, none⟩ = some (.int .i64 1) := by rw [h.c1 hb, hkb]
  have HK := Lib.hid hkd
  have HKB := Lib.hid hkb
  have HL := Lib.hid hl
  have HX := Lib.hid hx
  have d1 := h.c1 hx
  have hkxb : (nx.kind == 1) = false := by simpa using hkx
  have HKX := Lib.hid hkx
  have HLA := Lib.hid hla
  have HN1 := Lib.hid hnb1
  have HXD := Lib.hid hxd
  have HXB := Lib.hid hxb
  have H40 := Lib.hid h40
  have HBP : Hid (((b.toNat : Nat) : Int) = b) := Lib.hid (by have := h.rng _ _ hb; omega)
  obtain ⟨mb, hmb⟩ := h.dir_mp hb hkb
  have HMP := Lib.hid hmb
  have HDB : Hid (bd ≠ bb) := Lib.hid (fun e => hdb (h.inj _ _ _ _ _ (e ▸ hd) hb))
  have hn1 : (nb.names.length : Int) < 40 := by omega
  have H := Lib.hid h
  have HD := Lib.hid hd
  have HB := Lib.hid hb
  clear h hd hb hkd hkb hl hx hkx hla hmb hdb hfu hxd hxb h40 hnb1
  go_enter Try.func24, Try.ntmps24
  go_wp2_with fail
  refine (pair_ok H.out _ _ HD.out HB.out).mono ?_
  rintro e w' ⟨rfl, rfl⟩
  go_wp2_with fail
  refine (entry_some H.out HD.out HK.out _ _ HL.out HX.out).mono ?_
  rintro e w' ⟨rfl, rfl⟩
  go_wp2_with fail
  refine (name_any _ _).mono ?_
  rintro e w' ⟨rfl, rfl⟩
  have HMB := Lib.hid (Mv.refl H.out)
  have HBL := Lib.hid (Below.refl w.heap.size w)
  have HR := Lib.hid H.out
  have hq := fun (W : World) => eql_nil_some (P := Try.prog) W 68 ⟨bx, 0, none⟩ Try.underlying68
  have c10 : w.cell? ⟨bb, 10, none⟩ = some (.map (some mb)) := by rw [HR.out.c10 HB.out, HMP.out]
  have hlen : ∀ ty, (Builtin.len_ #[84] ty #[.map (some mb)]).run Try.prog w = .ok (.int .i64 nb.names.length) w := fun ty => HMP.out ▸ HR.out.len HB.out ty
  have hne := neq_nodes (w := w) (HR.out.node _ bd nd HD.out) (HR.out.node _ bb nb HB.out) HDB.out
  go_wp2_with fail
  refine (entry_none HR.out HB.out HKB.out _ HLA.out).mono ?_
  rintro e w' ⟨rfl, rfl⟩
  obtain ⟨m, m2, O1, O2, l2, hmw⟩ := mvW_of HR.out HD.out HB.out HX.out HK.out HKB.out HXD.out HXB.out s ar HL.out HN1.out H40.out
  have HM := Lib.hid hmw
  have q1 := hmw.rdel
  have q2 := hmw.rupd
  have q3 := hmw.c10
  have q4 := hmw.c0
  have q5 : ∀ j, (((w.drewN j).putObj m O1).drew.putObj m2 O2).cell? ⟨bx, 1, none⟩ = some (.int .i64 nx.kind) := fun j => by rw [(HM.out.at_x HX.out HXD.out HXB.out 1 j).1]; rfl
  have c10d : w.cell? ⟨bd, 10, none⟩ = some (.map (some m)) := by rw [HR.out.c10 HD.out, HM.out.mpd]
  clear hmw
  go_wp2
  go_quiet (fail)
  go_wp2
  go_region
  go_wp2
  go_ret
  exact ⟨rfl, l2, HM.out.perm, by have e := fun j => HMB.out.trans ((HM.out.fin HX.out HXD.out HXB.out j).2 HKX.out); exact e _⟩
set_option maxRecDepth 100000 in
set_option maxHeartbeats 800000 in
theorem mv_overd {w : World} {t bd bb : Nat} {S : Tab} {nd nb : Nd} (h : Rep w t S) (d b : Int) (hd : S d.toNat = some (bd, nd)) (hb : S b.toNat = some (bb, nb)) (s ar : ByteArray) (hkd : nd.kind = 1) (hkb : nb.kind = 1) {x bx : Nat} {nx : Nd} (hl : look nd.names s = some x) (hx : S x = some (bx, nx)) (hn : nameB ar = true) (hkx : nx.kind = 1) (hwi : Calls Try.prog 51 #[.pointer (some ⟨t, 0, none⟩), .pointer (some ⟨bb, 0, none⟩), .pointer (some ⟨bx, 0, none⟩)] w fun e w' => e = .returned (.bool false) ∧ Below w.heap.size w w') {y by_ : Nat} {ny : Nd} (hla : look nb.names ar = some y) (hy : S y = some (by_, ny)) (hyx : y ≠ x) (hxd : x ≠ d.toNat) (hxb : x ≠ b.toNat) {nb1 : Nd} (hnb1 : nb1 = (if b.toNat = d.toNat then { nd with names := delL nd.names s } else nb)) (h40 : (delL nb1.names ar).length < 40) (hny : ny.names = []) {Q : World → Prop} (hlo : ∀ (w1 : World) (l2 : List (ByteArray × Nat)), l2.Perm ((ar, x) :: delL nb1.names ar) → Mv w t S w1 (movedS S d.toNat b.toNat x bd nd bb nb1 bx nx s l2) → Calls Try.prog 53 #[.pointer (some ⟨t, 0, none⟩), .pointer (some ⟨by_, 0, none⟩)] w1 fun e w' => e = .returned (.tuple #[]) ∧ Q w') (hky : ny.kind = 1) :
    Calls Try.prog 24 #[.pointer (some ⟨t, 0, none⟩), .int .i64 d, .string s, .int .i64 b, .string ar] w fun e w' => e = .returned (.int .i64 0) ∧ Q w' := by
  have c1 : w.cell? ⟨bd, 1, none⟩ = some (.int .i64 1) := by rw [h.c1 hd, hkd]
  have e1 : w.cell? ⟨bb, 1, none⟩ = some (.int .i64 1) := by rw [h.c1 hb, hkb]
  have HK := Lib.hid hkd
  have HKB := Lib.hid hkb
  have HL := Lib.hid hl
  have HX := Lib.hid hx
  have d1 : w.cell? ⟨bx, 1, none⟩ = some (.int .i64 1) := by rw [h.c1 hx, hkx]
  have HW := Lib.hid hwi
  have HKX := Lib.hid hkx
  have HLA := Lib.hid hla
  have HY := Lib.hid hy
  have HYX : Hid (by_ ≠ bx) := Lib.hid (fun e => hyx (h.inj _ _ _ _ _ (e ▸ hy) hx))
  have HN1 := Lib.hid hnb1
  have HXD := Lib.hid hxd
  have HXB := Lib.hid hxb
  have H40 := Lib.hid h40
  have HBP : Hid (((b.toNat : Nat) : Int) = b) := Lib.hid (by have := h.rng _ _ hb; omega)
  have HKY := Lib.hid hky
  have HNY := Lib.hid hny
  have HLO := Lib.hid hlo
  have H := Lib.hid h
  have HD := Lib.hid hd
  have HB := Lib.hid hb
  clear h hd hb hkd hkb hl hx hkx hwi hla hy hyx hky hny hlo hxd hxb h40 hnb1
  go_enter Try.func24, Try.ntmps24
  go_wp2_with fail
  refine (pair_ok H.out _ _ HD.out HB.out).mono ?_
  rintro e w' ⟨rfl, rfl⟩
  go_wp2_with fail
  refine (entry_some H.out HD.out HK.out _ _ HL.out HX.out).mono ?_
  rintro e w' ⟨rfl, rfl⟩
  go_wp2_with fail
  refine (name_any _ _).mono ?_
  rintro e w' ⟨rfl, rfl⟩
  go_wp2_with fail
  refine HW.out.mono ?_
  rintro e wr ⟨rfl, hbl⟩
  have HMB := Lib.hid ((Mv.refl H.out).below hbl)
  have HBL := Lib.hid hbl
  clear hbl HW c1 e1 d1
  have HR := Lib.hid HMB.out.rep
  have d1 : wr.cell? ⟨bx, 1, none⟩ = some (.int .i64 1) := by rw [HR.out.c1 HX.out, HKX.out]
  have hq := eql_nodes (w := wr) (HR.out.node _ by_ ny HY.out) (HR.out.node _ bx nx HX.out) HYX.out
  have g1 : wr.cell? ⟨by_, 1, none⟩ = some (.int .i64 1) := by rw [HR.out.c1 HY.out, HKY.out]
  have g10 := HR.out.c10 HY.out
  have hleny : ∀ j ty, (Builtin.len_ #[84] ty #[.map ny.mp]).run Try.prog (wr.drewN j) = .ok (.int .i64 0) (wr.drewN j) := fun j ty => by have e := (HR.out.drewN j).len HY.out ty; rw [HNY.out] at e; exact e
  go_wp2_with fail
  refine (entry_some HR.out HB.out HKB.out _ _ HLA.out HY.out).mono ?_
  rintro e w' ⟨rfl, rfl⟩
  obtain ⟨m, m2, O1, O2, l2, hmw⟩ := mvW_of HR.out HD.out HB.out HX.out HK.out HKB.out HXD.out HXB.out s ar HL.out HN1.out H40.out
  have HM := Lib.hid hmw
  have q1 := hmw.rdel
  have q2 := hmw.rupd
  have q3 := hmw.c10
  have q4 := hmw.c0
  have q5 : ∀ j, (((wr.drewN j).putObj m O1).drew.putObj m2 O2).cell? ⟨bx, 1, none⟩ = some (.int .i64 1) := fun j => by rw [(HM.out.at_x HX.out HXD.out HXB.out 1 j).1]; show some (Value.int .i64 nx.kind) = _; rw [HKX.out]
  have q6 : ∀ j, (((wr.drewN j).putObj m O1).drew.putObj m2 O2).cell? ⟨bx, 11, none⟩ = some (.int .i64 (nx.parent : Int)) := fun j => (HM.out.at_x HX.out HXD.out HXB.out 11 j).1
  have q7 : ∀ j, (((wr.drewN j).putObj m O1).drew.putObj m2 O2).frozen? ⟨bx, 11, none⟩ = false := fun j => (HM.out.at_x HX.out HXD.out HXB.out 11 j).2
  have c10d : wr.cell? ⟨bd, 10, none⟩ = some (.map (some m)) := by rw [HR.out.c10 HD.out, HM.out.mpd]
  clear hmw
  have hcall := fun j => HLO.out _ l2 HM.out.perm (by have e := HMB.out.trans ((HM.out.fin HX.out HXD.out HXB.out j).1 HKX.out); rw [HBP.out] at e; exact e)
  have HCA := Lib.hid hcall
  clear hcall
  go_wp2
  go_quiet (fail)
  go_wp2
  go_region
  go_wp2_with fail
  refine (HCA.out _).mono ?_
  rintro e w' ⟨rfl, hq⟩
  have HQ := Lib.hid hq
  clear hq
  go_wp2
  go_ret
  exact ⟨rfl, HQ.out⟩
set_option maxRecDepth 100000 in
set_option maxHeartbeats 800000 in
theorem mv_overf {w : World} {t bd bb : Nat} {S : Tab} {nd nb : Nd} (h : Rep w t S) (d b : Int) (hd : S d.toNat = some (bd, nd)) (hb : S b.toNat = some (bb, nb)) (s ar : ByteArray) (hkd : nd.kind = 1) (hkb : nb.kind = 1) {x bx : Nat} {nx : Nd} (hl : look nd.names s = some x) (hx : S x = some (bx, nx)) (hn : nameB ar = true) (hkx : ¬ nx.kind = 1) {y by_ : Nat} {ny : Nd} (hla : look nb.names ar = some y) (hy : S y = some (by_, ny)) (hyx : y ≠ x) (hxd : x ≠ d.toNat) (hxb : x ≠ b.toNat) {nb1 : Nd} (hnb1 : nb1 = (if b.toNat = d.toNat then { nd with names := delL nd.names s } else nb)) (h40 : (delL nb1.names ar).length < 40) (hny : ny.names = []) {Q : World → Prop} (hlo : ∀ (w1 : World) (l2 : List (ByteArray × Nat)), l2.Perm ((ar, x) :: delL nb1.names ar) → Mv w t S w1 (movedS S d.toNat b.toNat x bd nd bb nb1 bx nx s l2) → Calls Try.prog 53 #[.pointer (some ⟨t, 0, none⟩), .pointer (some ⟨by_, 0, none⟩)] w1 fun e w' => e = .returned (.tuple #[]) ∧ Q w') (hky : ¬ ny.kind = 1) :
    Calls Try.prog 24 #[.pointer (some ⟨t, 0, none⟩), .int .i64 d, .string s, .int .i64 b, .string ar] w fun e w' => e = .returned (.int .i64 0) ∧ Q w' := by
  have c1 : w.cell? ⟨bd, 1, none⟩ = some (.int .i64 1) := by rw [h.c1 hd, hkd]
  have e1 : w.cell? ⟨bb, 1, none⟩ = some (.int .i64 1) := by rw [h.c1 hb, hkb]
  have HK := Lib.hid hkd
  have HKB := Lib.hid hkb
  have HL := Lib.hid hl
  have HX := Lib.hid hx
  have d1 := h.c1 hx
  have hkxb : (nx.kind == 1) = false := by simpa using hkx
  have HKX := Lib.hid hkx
  have HLA := Lib.hid hla
  have HY := Lib.hid hy
  have HYX : Hid (by_ ≠ bx) := Lib.hid (fun e => hyx (h.inj _ _ _ _ _ (e ▸ hy) hx))
  have HN1 := Lib.hid hnb1
  have HXD := Lib.hid hxd
  have HXB := Lib.hid hxb
  have H40 := Lib.hid h40
  have HBP : Hid (((b.toNat : Nat) : Int) = b) := Lib.hid (by have := h.rng _ _ hb; omega)
  have HKY := Lib.hid hky
  have HNY := Lib.hid hny
  have HLO := Lib.hid hlo
  have H := Lib.hid h
  have HD := Lib.hid hd
  have HB := Lib.hid hb
  clear h hd hb hkd hkb hl hx hkx hla hy hyx hky hny hlo hxd hxb h40 hnb1
  go_enter Try.func24, Try.ntmps24
  go_wp2_with fail
  refine (pair_ok H.out _ _ HD.out HB.out).mono ?_
  rintro e w' ⟨rfl, rfl⟩
  go_wp2_with fail
  refine (entry_some H.out HD.out HK.out _ _ HL.out HX.out).mono ?_
  rintro e w' ⟨rfl, rfl⟩
  go_wp2_with fail
  refine (name_any _ _).mono ?_
  rintro e w' ⟨rfl, rfl⟩
  have HMB := Lib.hid (Mv.refl H.out)
  have HBL := Lib.hid (Below.refl w.heap.size w)
  have HR := Lib.hid H.out
  have hq := eql_nodes (w := w) (HR.out.node _ by_ ny HY.out) (HR.out.node _ bx nx HX.out) HYX.out
  have g1 := HR.out.c1 HY.out
  have hkyb : (ny.kind == 1) = false := by have := HKY.out; simpa using this
  have g10 := HR.out.c10 HY.out
  have hleny : ∀ j ty, (Builtin.len_ #[84] ty #[.map ny.mp]).run Try.prog (w.drewN j) = .ok (.int .i64 0) (w.drewN j) := fun j ty => by have e := (HR.out.drewN j).len HY.out ty; rw [HNY.out] at e; exact e
  go_wp2_with fail
  refine (entry_some HR.out HB.out HKB.out _ _ HLA.out HY.out).mono ?_
  rintro e w' ⟨rfl, rfl⟩
  obtain ⟨m, m2, O1, O2, l2, hmw⟩ := mvW_of HR.out HD.out HB.out HX.out HK.out HKB.out HXD.out HXB.out s ar HL.out HN1.out H40.out
  have HM := Lib.hid hmw
  have q1 := hmw.rdel
  have q2 := hmw.rupd
  have q3 := hmw.c10
  have q4 := hmw.c0
  have q5 : ∀ j, (((w.drewN j).putObj m O1).drew.putObj m2 O2).cell? ⟨bx, 1, none⟩ = some (.int .i64 nx.kind) := fun j => by rw [(HM.out.at_x HX.out HXD.out HXB.out 1 j).1]; rfl
  have c10d : w.cell? ⟨bd, 10, none⟩ = some (.map (some m)) := by rw [HR.out.c10 HD.out, HM.out.mpd]
  clear hmw
  have hcall := fun j => HLO.out _ l2 HM.out.perm (by have e := HMB.out.trans ((HM.out.fin HX.out HXD.out HXB.out j).2 HKX.out); exact e)
  have HCA := Lib.hid hcall
  clear hcall
  go_wp2
  go_quiet (fail)
  go_wp2
  go_region
  go_wp2_with fail
  refine (HCA.out _).mono ?_
  rintro e w' ⟨rfl, hq⟩
  have HQ := Lib.hid hq
  clear hq
  go_wp2
  go_ret
  exact ⟨rfl, HQ.out⟩
end Go.Proofs.Ytafonmnfeibaiaa
