import Derived.Test.YtinmdegmnepheaaWalkG
import Derived.LaidEqlPtr
namespace Go.Proofs.Ytinmdegmnepheaa
open Go.RowKit

theorem belowDrewN {B : Nat} {a w : World} (h : Below B a w) (n : Nat) : Below B a (w.drewN n) := h.trans ⟨rfl, rfl, rfl, Nat.le_refl _, fun _ _ => rfl⟩
theorem info55 : (Try.prog.info? 55).map (fun i => i.size) = some 12 := by kernel_rfl
theorem neq_nodes {w : World} {b c : Nat} {C D : Array Value} {T U : TypeId} (hb : w.heap[b]? = some (.cells C T (0, 0))) (hc : w.heap[c]? = some (.cells D U (0, 0))) (hne : b ≠ c) :
    (binOp .neq 46 (.pointer (some ⟨b, 0, none⟩)) (.pointer (some ⟨c, 0, none⟩))).run Try.prog w = .ok (.bool true) w := by
  obtain ⟨j, hj, hsz⟩ : ∃ j, Try.prog.info? 55 = some j ∧ j.size = 12 := by
    have := info55
    cases h : Try.prog.info? 55 with
    | none => rw [h] at this; simp at this
    | some j => rw [h] at this; exact ⟨j, rfl, by simpa using this⟩
  have h : ∀ d : Nat, (Op.equalIn (d + 1) 46 (.pointer (some ⟨b, 0, none⟩)) (.pointer (some ⟨c, 0, none⟩))).run Try.prog w = .ok false w := fun d => by
    simp [Op.equalIn, run_underlying Try.underlying46, sizeOf, typeInfo, hj, hsz, run_sameAddr_other (a := ⟨b, 0, none⟩) (b := ⟨c, 0, none⟩) w (fun e => hne (by cases e; rfl)) hb hc]
  simp only [binOp]
  simp [Op.equal, Op.maxDepth, h 9999]
theorem eql_nodes {w : World} {b c : Nat} {C D : Array Value} {T U : TypeId} (hb : w.heap[b]? = some (.cells C T (0, 0))) (hc : w.heap[c]? = some (.cells D U (0, 0))) (hne : b ≠ c) :
    (binOp .eql 46 (.pointer (some ⟨b, 0, none⟩)) (.pointer (some ⟨c, 0, none⟩))).run Try.prog w = .ok (.bool false) w := by
  obtain ⟨j, hj, hsz⟩ : ∃ j, Try.prog.info? 55 = some j ∧ j.size = 12 := by
    have := info55
    cases h : Try.prog.info? 55 with
    | none => rw [h] at this; simp at this
    | some j => rw [h] at this; exact ⟨j, rfl, by simpa using this⟩
  exact run_eql_ptr_other (a := ⟨b, 0, none⟩) (b := ⟨c, 0, none⟩) w Try.underlying46 hj (by omega) (fun e => hne (by cases e; rfl)) hb hc

set_option maxHeartbeats 400000 in
theorem within_top {w : World} {t b c k j : Nat} {S : Tab} {n m : Nd} (h : Rep w t S) (hk : S k = some (b, n)) (hj : S j = some (c, m)) (hne : j ≠ k) (hp : n.parent = n.ino) :
    Calls Try.prog 27 #[.pointer (some ⟨t, 0, none⟩), .pointer (some ⟨b, 0, none⟩), .pointer (some ⟨c, 0, none⟩)] w fun e w' => e = .returned (.bool false) ∧ Below w.heap.size w w' := by
  have c0 := h.c0 hk
  have c11 := h.c11 hk
  rw [hp] at c11
  have hbc : b ≠ c := fun e => hne (h.inj _ _ _ _ _ (e ▸ hj) hk)
  have q1 : ∀ i, (binOp .neq 46 (.pointer (some ⟨b, 0, none⟩)) (.pointer (some ⟨c, 0, none⟩))).run Try.prog (w.drewN i) = .ok (.bool true) (w.drewN i) := fun i => neq_nodes (w := w.drewN i) (h.node k b n hk) (h.node j c m hj) hbc
  have q2 : ∀ i, (binOp .eql 46 (.pointer (some ⟨b, 0, none⟩)) (.pointer (some ⟨c, 0, none⟩))).run Try.prog (w.drewN i) = .ok (.bool false) (w.drewN i) := fun i => eql_nodes (w := w.drewN i) (h.node k b n hk) (h.node j c m hj) hbc
  clear h hk hj hne hp hbc
  go_enter Try.func27, Try.ntmps27
  go_wp2
  refine wp_loop_rounds 1 ?_
  rw [rounds_succ]
  go_wp2
  go_quiet (fail)
  go_wp2
  go_ret
  exact ⟨rfl, belowDrewN (Below.refl _ _) _⟩

/-! ### Enter -/
def Nd.gained (n : Nd) (d : Int) : Nd := { n with links := n.links + 1, parent := if n.kind = 1 then d else n.parent }

theorem Mv.named {w : World} {t b k : Nat} {S : Tab} {n : Nd} (h : Rep w t S) (hk : S k = some (b, n)) {m : Nat} (hm : n.mp = some m) (s : ByteArray) (x : Int) (hs : look n.names s = none) (hn : n.names.length < 40) :
    ∃ w1, (Instr.mapUpdate 53 (.map (some m)) (.string s) (.int .i64 x)).run Try.prog w = .ok () w1 ∧ Mv w t S w1 (upd S k (some (b, { n with names := n.names ++ [(s, x)] }))) := by
  obtain ⟨es, c, hr, hok⟩ := run_update_new Try.underlying53 Try.underlying9 (h.map k b n m hk hm) s x hs
  exact ⟨_, hr, (Mv.refl h).setMap hk hm es c _ hok (by simp; omega)⟩
theorem Mv.gainedFile {w : World} {t b k : Nat} {S : Tab} {n : Nd} (h : Rep w t S) (hk : S k = some (b, n)) (hkd : n.kind ≠ 1) (d : Int) :
    Mv w t S (w.setCell ⟨b, 5, none⟩ (.int .i64 (n.links + 1))) (upd S k (some (b, n.gained d))) :=
  (Mv.refl h).setNode hk 5 (.int .i64 (n.links + 1)) (n.gained d) (by simp [Nd.gained, Nd.cells, hkd]) rfl rfl rfl rfl (h.small k b n hk).1
theorem Mv.gainedDir {w : World} {t b k : Nat} {S : Tab} {n : Nd} (h : Rep w t S) (hk : S k = some (b, n)) (hkd : n.kind = 1) (d : Int) :
    Mv w t S ((w.setCell ⟨b, 5, none⟩ (.int .i64 (n.links + 1))).setCell ⟨b, 11, none⟩ (.int .i64 d)) (upd S k (some (b, n.gained d))) := by
  have hsm := (h.small k b n hk).1
  have h1 := (Mv.refl h).setNode hk 5 (.int .i64 (n.links + 1)) { n with links := n.links + 1 } rfl rfl rfl rfl rfl hsm
  have h2 := h1.setNode (upd_same ..) 11 (.int .i64 d) (n.gained d) (by simp [Nd.gained, Nd.cells, hkd]) rfl rfl rfl rfl hsm
  rw [upd_upd] at h2
  exact h2
def entered (S : Tab) (d i : Nat) (bd : Nat) (nd : Nd) (bn : Nat) (nn : Nd) (s : ByteArray) (di ii : Int) : Tab :=
  upd (upd S d (some (bd, { nd with names := nd.names ++ [(s, ii)] }))) i (some (bn, nn.gained di))

set_option maxHeartbeats 400000 in
theorem enter_file {w : World} {t bd bn : Nat} {S : Tab} {nd nn : Nd} (h : Rep w t S) (d i : Int) (hd : S d.toNat = some (bd, nd)) (hi : S i.toNat = some (bn, nn)) (hkd : nd.kind = 1) (hkn : nn.kind ≠ 1) (s : ByteArray)
    (hs : nameB s = true) (hl : look nd.names s = none) (hi1 : i ≠ 1) (hlk : 0 ≤ nn.links ∧ nn.links < 8) (hn : nd.names.length < 40) :
    Calls Try.prog 14 #[.pointer (some ⟨t, 0, none⟩), .int .i64 d, .string s, .int .i64 i] w fun e w' => e = .returned (.int .i64 0) ∧ Mv w t S w' (entered S d.toNat i.toNat bd nd bn nn s d i) := by
  obtain ⟨m, hm⟩ := h.dir_mp hd hkd
  have hdi : i.toNat ≠ d.toNat := fun e => by rw [e, hd] at hi; cases hi; exact hkn hkd
  obtain ⟨w1, hrun, hmv⟩ := Mv.named h hd hm s i hl hn
  have hi' : upd S d.toNat (some (bd, { nd with names := nd.names ++ [(s, i)] })) i.toNat = some (bn, nn) := by rw [upd_other _ _ hdi]; exact hi
  have c1 : w.cell? ⟨bd, 1, none⟩ = some (.int .i64 1) := by rw [h.c1 hd, hkd]
  have c10 : w.cell? ⟨bd, 10, none⟩ = some (.map (some m)) := by rw [h.c10 hd, hm]
  have d1 := h.c1 hi
  have d5 := h.c5 hi
  have e1 := hmv.rep.c1 hi'
  have e5 := hmv.rep.c5 hi'
  have g5 := hmv.rep.frozenN hi' 5
  have hlen : ∀ ty, (Builtin.len_ #[53] ty #[.map (some m)]).run Try.prog w = .ok (.int .i64 nd.names.length) w := fun ty => hm ▸ h.len hd ty
  have hkb : (nn.kind == 1) = false := by simpa using hkn
  have hib : (i == 1) = false := by simpa using hi1
  have hn1 : (nd.names.length : Int) < 40 := by omega
  obtain ⟨hlk1, hlk2⟩ := hlk
  have H := Lib.hid h
  have HD := Lib.hid hd
  have HI := Lib.hid hi
  have HL := Lib.hid hl
  have HM := Lib.hid hmv
  have HI' := Lib.hid hi'
  have HK := Lib.hid hkd
  have HN := Lib.hid hkn
  clear h hd hi hl hmv hi' hkd hkn hi1 hm hdi hn
  go_enter Try.func14, Try.ntmps14
  go_wp2_with fail
  refine (pair_ok H.out _ _ HD.out HI.out).mono ?_
  rintro e w' ⟨rfl, rfl⟩
  go_wp2_with fail
  refine (name_any _ _).mono ?_
  rintro e w' ⟨rfl, rfl⟩
  go_wp2_with fail
  refine (entry_none H.out HD.out HK.out _ HL.out).mono ?_
  rintro e w' ⟨rfl, rfl⟩
  go_wp2
  go_ret
  exact ⟨rfl, HM.out.trans (Mv.gainedFile HM.out.rep HI'.out HN.out d)⟩

set_option maxHeartbeats 800000 in
theorem enter_dir {w : World} {t bd bn : Nat} {S : Tab} {nd nn : Nd} (h : Rep w t S) (d i : Int) (hd : S d.toNat = some (bd, nd)) (hi : S i.toNat = some (bn, nn)) (hkd : nd.kind = 1) (hkn : nn.kind = 1) (s : ByteArray)
    (hs : nameB s = true) (hl : look nd.names s = none) (hi1 : i ≠ 1) (hlk : nn.links = 0) (hn : nd.names.length < 40) (hp : nd.parent = nd.ino) (hdi : i.toNat ≠ d.toNat) :
    Calls Try.prog 14 #[.pointer (some ⟨t, 0, none⟩), .int .i64 d, .string s, .int .i64 i] w fun e w' => e = .returned (.int .i64 0) ∧ Mv w t S w' (entered S d.toNat i.toNat bd nd bn nn s d i) := by
  obtain ⟨m, hm⟩ := h.dir_mp hd hkd
  have hi' : upd S d.toNat (some (bd, { nd with names := nd.names ++ [(s, i)] })) i.toNat = some (bn, nn) := by rw [upd_other _ _ hdi]; exact hi
  have c1 : w.cell? ⟨bd, 1, none⟩ = some (.int .i64 1) := by rw [h.c1 hd, hkd]
  have c10 : w.cell? ⟨bd, 10, none⟩ = some (.map (some m)) := by rw [h.c10 hd, hm]
  have d1 : w.cell? ⟨bn, 1, none⟩ = some (.int .i64 1) := by rw [h.c1 hi, hkn]
  have d5 : w.cell? ⟨bn, 5, none⟩ = some (.int .i64 0) := by rw [h.c5 hi, hlk]
  have hlen : ∀ ty, (Builtin.len_ #[53] ty #[.map (some m)]).run Try.prog w = .ok (.int .i64 nd.names.length) w := fun ty => hm ▸ h.len hd ty
  have hib : (i == 1) = false := by simpa using hi1
  have hn1 : (nd.names.length : Int) < 40 := by omega
  have H := Lib.hid h
  have HD := Lib.hid hd
  have HI := Lib.hid hi
  have HL := Lib.hid hl
  have HI' := Lib.hid hi'
  have HK := Lib.hid hkd
  have HN := Lib.hid hkn
  have HP := Lib.hid hp
  have HX := Lib.hid hdi
  have HM := Lib.hid hm
  have HO := Lib.hid hlk
  have HQ := Lib.hid hn
  clear h hd hi hl hi' hkd hkn hi1 hm hdi hn hp hlk
  go_enter Try.func14, Try.ntmps14
  go_wp2_with fail
  refine (pair_ok H.out _ _ HD.out HI.out).mono ?_
  rintro e w' ⟨rfl, rfl⟩
  go_wp2_with fail
  refine (name_any _ _).mono ?_
  rintro e w' ⟨rfl, rfl⟩
  go_wp2_with fail
  refine (entry_none H.out HD.out HK.out _ HL.out).mono ?_
  rintro e w' ⟨rfl, rfl⟩
  go_wp2_with fail
  refine (within_top H.out HD.out HI.out HX.out HP.out).mono ?_
  rintro e w' ⟨rfl, hb⟩
  have hmb := (Mv.refl H.out).below hb
  have h := hmb.rep
  obtain ⟨w1, hrun, hmv⟩ := Mv.named h HD.out HM.out s i HL.out HQ.out
  have r1 : w'.cell? ⟨bd, 1, none⟩ = some (.int .i64 1) := by rw [h.c1 HD.out, HK.out]
  have r10 : w'.cell? ⟨bd, 10, none⟩ = some (.map (some m)) := by rw [h.c10 HD.out, HM.out]
  have e1 : w1.cell? ⟨bn, 1, none⟩ = some (.int .i64 1) := by rw [hmv.rep.c1 HI'.out, HN.out]
  have e5 : w1.cell? ⟨bn, 5, none⟩ = some (.int .i64 0) := by rw [hmv.rep.c5 HI'.out, HO.out]
  have e11 := hmv.rep.c11 HI'.out
  have g5 := hmv.rep.frozenN HI'.out 5
  have g11 := hmv.rep.frozenN HI'.out 11
  have HV := Lib.hid (hmb.trans hmv)
  have HR := Lib.hid hmv
  clear hmb h hmv hb c1 c10 d1 d5
  go_wp2
  go_ret
  have h2 := HV.out.trans (Mv.gainedDir HR.out.rep HI'.out HN.out d)
  rw [HO.out] at h2
  exact ⟨rfl, h2⟩
end Go.Proofs.Ytinmdegmnepheaa
