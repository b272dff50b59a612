import Derived.Test.YtafonmnfeibaiaaInH
namespace Go.Proofs.Ytafonmnfeibaiaa
open Go.RowKit

/-! ### Enter -/
theorem tt_eq {b : Bool} (h : b = true) : b = true := h
set_option maxHeartbeats 400000 in
theorem enter_no {w : World} {t : Nat} {S : Tab} (h : Rep w t S) (d i : Int) (s : ByteArray) (hn : S d.toNat = none ∨ S i.toNat = none) :
    Calls Try.prog 22 #[.pointer (some ⟨t, 0, none⟩), .int .i64 d, .string s, .int .i64 i] w fun e w' => e = .returned (.int .i64 3) ∧ w = w' := by
  have H := Lib.hid h
  have HN := Lib.hid hn
  clear h hn
  go_enter Try.func22, Try.ntmps22
  go_wp2_with fail
  refine (pair_none H.out _ _ HN.out).mono ?_
  rintro e w' ⟨rfl, rfl⟩
  go_wp2
  go_ret
  exact ⟨rfl, rfl⟩
set_option maxHeartbeats 400000 in
theorem enter_nodir {w : World} {t bd bn : Nat} {S : Tab} {nd nn : Nd} (h : Rep w t S) (d i : Int) (hd : S d.toNat = some (bd, nd)) (hi : S i.toNat = some (bn, nn)) (s : ByteArray) (hkd : ¬ nd.kind = 1) :
    Calls Try.prog 22 #[.pointer (some ⟨t, 0, none⟩), .int .i64 d, .string s, .int .i64 i] w fun e w' => e = .returned (.int .i64 6) ∧ w = w' := by
  have c1 := h.c1 hd
  have hkb : (nd.kind != 1) = true := by simpa using hkd
  have H := Lib.hid h
  have HD := Lib.hid hd
  have HI := Lib.hid hi
  clear h hd hi hkd
  go_enter Try.func22, Try.ntmps22
  go_wp2_with fail
  refine (pair_ok H.out _ _ HD.out HI.out).mono ?_
  rintro e w' ⟨rfl, rfl⟩
  go_wp2
  go_ret
  exact ⟨rfl, rfl⟩
set_option maxHeartbeats 400000 in
theorem enter_noname {w : World} {t bd bn : Nat} {S : Tab} {nd nn : Nd} (h : Rep w t S) (d i : Int) (hd : S d.toNat = some (bd, nd)) (hi : S i.toNat = some (bn, nn)) (s : ByteArray) (hkd : nd.kind = 1) (hs : nameB s = false) :
    Calls Try.prog 22 #[.pointer (some ⟨t, 0, none⟩), .int .i64 d, .string s, .int .i64 i] w fun e w' => e = .returned (.int .i64 1) ∧ w = w' := by
  have c1 : w.cell? ⟨bd, 1, none⟩ = some (.int .i64 1) := by rw [h.c1 hd, hkd]
  have HK := Lib.hid hkd
  have H := Lib.hid h
  have HD := Lib.hid hd
  have HI := Lib.hid hi
  clear h hd hi hkd
  go_enter Try.func22, Try.ntmps22
  go_wp2_with fail
  refine (pair_ok H.out _ _ HD.out HI.out).mono ?_
  rintro e w' ⟨rfl, rfl⟩
  go_wp2_with fail
  refine (name_any _ _).mono ?_
  rintro e w' ⟨rfl, rfl⟩
  go_wp2
  go_ret
  exact ⟨rfl, rfl⟩
set_option maxHeartbeats 400000 in
theorem enter_is {w : World} {t bd bn : Nat} {S : Tab} {nd nn : Nd} (h : Rep w t S) (d i : Int) (hd : S d.toNat = some (bd, nd)) (hi : S i.toNat = some (bn, nn)) (s : ByteArray) (hkd : nd.kind = 1) (hs : nameB s = true) {x by_ : Nat} {ny : Nd} (hl : look nd.names s = some x) (hy : S x = some (by_, ny)) :
    Calls Try.prog 22 #[.pointer (some ⟨t, 0, none⟩), .int .i64 d, .string s, .int .i64 i] w fun e w' => e = .returned (.int .i64 5) ∧ w = w' := by
  have c1 : w.cell? ⟨bd, 1, none⟩ = some (.int .i64 1) := by rw [h.c1 hd, hkd]
  have HK := Lib.hid hkd
  have HL := Lib.hid hl
  have HY := Lib.hid hy
  have H := Lib.hid h
  have HD := Lib.hid hd
  have HI := Lib.hid hi
  clear h hd hi hkd hl hy
  go_enter Try.func22, Try.ntmps22
  go_wp2_with fail
  refine (pair_ok H.out _ _ HD.out HI.out).mono ?_
  rintro e w' ⟨rfl, rfl⟩
  go_wp2_with fail
  refine (name_any _ _).mono ?_
  rintro e w' ⟨rfl, rfl⟩
  go_wp2_with fail
  refine (entry_some H.out HD.out HK.out _ _ HL.out HY.out).mono ?_
  rintro e w' ⟨rfl, rfl⟩
  go_wp2
  go_ret
  exact ⟨rfl, rfl⟩
set_option maxHeartbeats 400000 in
theorem enter_root {w : World} {t bd bn : Nat} {S : Tab} {nd nn : Nd} (h : Rep w t S) (d i : Int) (hd : S d.toNat = some (bd, nd)) (hi : S i.toNat = some (bn, nn)) (s : ByteArray) (hkd : nd.kind = 1) (hs : nameB s = true) (hl : look nd.names s = none) (hi1 : i = 1) :
    Calls Try.prog 22 #[.pointer (some ⟨t, 0, none⟩), .int .i64 d, .string s, .int .i64 i] w fun e w' => e = .returned (.int .i64 12) ∧ w = w' := by
  have c1 : w.cell? ⟨bd, 1, none⟩ = some (.int .i64 1) := by rw [h.c1 hd, hkd]
  have HK := Lib.hid hkd
  have HL := Lib.hid hl
  have hib : (i == 1) = true := by simpa using hi1
  have H := Lib.hid h
  have HD := Lib.hid hd
  have HI := Lib.hid hi
  clear h hd hi hkd hl hi1
  go_enter Try.func22, Try.ntmps22
  go_wp2_with fail
  refine (pair_ok H.out _ _ HD.out HI.out).mono ?_
  rintro e w' ⟨rfl, rfl⟩
  go_wp2_with fail
  refine (name_any _ _).mono ?_
  rintro e w' ⟨rfl, rfl⟩
  go_wp2_with fail
  refine (entry_none H.out HD.out HK.out _ HL.out).mono ?_
  rintro e w' ⟨rfl, rfl⟩
  go_wp2
  go_ret
  exact ⟨rfl, rfl⟩
set_option maxHeartbeats 400000 in
theorem enter_manyd {w : World} {t bd bn : Nat} {S : Tab} {nd nn : Nd} (h : Rep w t S) (d i : Int) (hd : S d.toNat = some (bd, nd)) (hi : S i.toNat = some (bn, nn)) (s : ByteArray) (hkd : nd.kind = 1) (hs : nameB s = true) (hl : look nd.names s = none) (hi1 : i ≠ 1) (hkn : nn.kind = 1) (hlk : 0 < nn.links) :
    Calls Try.prog 22 #[.pointer (some ⟨t, 0, none⟩), .int .i64 d, .string s, .int .i64 i] w fun e w' => e = .returned (.int .i64 12) ∧ w = w' := by
  have c1 : w.cell? ⟨bd, 1, none⟩ = some (.int .i64 1) := by rw [h.c1 hd, hkd]
  have HK := Lib.hid hkd
  have HL := Lib.hid hl
  have hib : (i == 1) = false := by simpa using hi1
  have d1 : w.cell? ⟨bn, 1, none⟩ = some (.int .i64 1) := by rw [h.c1 hi, hkn]
  have d5 := h.c5 hi
  have H := Lib.hid h
  have HD := Lib.hid hd
  have HI := Lib.hid hi
  clear h hd hi hkd hl hi1 hkn
  go_enter Try.func22, Try.ntmps22
  go_wp2_with fail
  refine (pair_ok H.out _ _ HD.out HI.out).mono ?_
  rintro e w' ⟨rfl, rfl⟩
  go_wp2_with fail
  refine (name_any _ _).mono ?_
  rintro e w' ⟨rfl, rfl⟩
  go_wp2_with fail
  refine (entry_none H.out HD.out HK.out _ HL.out).mono ?_
  rintro e w' ⟨rfl, rfl⟩
  go_wp2
  go_ret
  exact ⟨rfl, rfl⟩
set_option maxHeartbeats 400000 in
theorem enter_manyf {w : World} {t bd bn : Nat} {S : Tab} {nd nn : Nd} (h : Rep w t S) (d i : Int) (hd : S d.toNat = some (bd, nd)) (hi : S i.toNat = some (bn, nn)) (s : ByteArray) (hkd : nd.kind = 1) (hs : nameB s = true) (hl : look nd.names s = none) (hi1 : i ≠ 1) (hkn : ¬ nn.kind = 1) (hlk : 8 ≤ nn.links) :
    Calls Try.prog 22 #[.pointer (some ⟨t, 0, none⟩), .int .i64 d, .string s, .int .i64 i] w fun e w' => e = .returned (.int .i64 12) ∧ w = w' := by
  have c1 : w.cell? ⟨bd, 1, none⟩ = some (.int .i64 1) := by rw [h.c1 hd, hkd]
  have HK := Lib.hid hkd
  have HL := Lib.hid hl
  have hib : (i == 1) = false := by simpa using hi1
  have d1 := h.c1 hi
  have d5 := h.c5 hi
  have hkb : (nn.kind == 1) = false := by simpa using hkn
  have H := Lib.hid h
  have HD := Lib.hid hd
  have HI := Lib.hid hi
  clear h hd hi hkd hl hi1 hkn
  go_enter Try.func22, Try.ntmps22
  go_wp2_with fail
  refine (pair_ok H.out _ _ HD.out HI.out).mono ?_
  rintro e w' ⟨rfl, rfl⟩
  go_wp2_with fail
  refine (name_any _ _).mono ?_
  rintro e w' ⟨rfl, rfl⟩
  go_wp2_with fail
  refine (entry_none H.out HD.out HK.out _ HL.out).mono ?_
  rintro e w' ⟨rfl, rfl⟩
  go_wp2
  go_ret
  exact ⟨rfl, rfl⟩
set_option maxHeartbeats 400000 in
theorem enter_fulld {w : World} {t bd bn : Nat} {S : Tab} {nd nn : Nd} (h : Rep w t S) (d i : Int) (hd : S d.toNat = some (bd, nd)) (hi : S i.toNat = some (bn, nn)) (s : ByteArray) (hkd : nd.kind = 1) (hs : nameB s = true) (hl : look nd.names s = none) (hi1 : i ≠ 1) (hkn : nn.kind = 1) (hlk : nn.links = 0) (hn : 40 ≤ nd.names.length) :
    Calls Try.prog 22 #[.pointer (some ⟨t, 0, none⟩), .int .i64 d, .string s, .int .i64 i] w fun e w' => e = .returned (.int .i64 9) ∧ w = w' := by
  obtain ⟨m, hm⟩ := h.dir_mp hd hkd
  have c10 : w.cell? ⟨bd, 10, none⟩ = some (.map (some m)) := by rw [h.c10 hd, hm]
  have hlen : ∀ ty, (Builtin.len_ #[84] ty #[.map (some m)]).run Try.prog w = .ok (.int .i64 nd.names.length) w := fun ty => hm ▸ h.len hd ty
  have c1 : w.cell? ⟨bd, 1, none⟩ = some (.int .i64 1) := by rw [h.c1 hd, hkd]
  have HK := Lib.hid hkd
  have HL := Lib.hid hl
  have hib : (i == 1) = false := by simpa using hi1
  have d1 : w.cell? ⟨bn, 1, none⟩ = some (.int .i64 1) := by rw [h.c1 hi, hkn]
  have d5 : w.cell? ⟨bn, 5, none⟩ = some (.int .i64 0) := by rw [h.c5 hi, hlk]
  have hn1 : 40 ≤ (nd.names.length : Int) := by omega
  have H := Lib.hid h
  have HD := Lib.hid hd
  have HI := Lib.hid hi
  clear h hd hi hkd hl hi1 hkn hlk hm hn
  go_enter Try.func22, Try.ntmps22
  go_wp2_with fail
  refine (pair_ok H.out _ _ HD.out HI.out).mono ?_
  rintro e w' ⟨rfl, rfl⟩
  go_wp2_with fail
  refine (name_any _ _).mono ?_
  rintro e w' ⟨rfl, rfl⟩
  go_wp2_with fail
  refine (entry_none H.out HD.out HK.out _ HL.out).mono ?_
  rintro e w' ⟨rfl, rfl⟩
  go_wp2
  go_ret
  exact ⟨rfl, rfl⟩
set_option maxHeartbeats 400000 in
theorem enter_fullf {w : World} {t bd bn : Nat} {S : Tab} {nd nn : Nd} (h : Rep w t S) (d i : Int) (hd : S d.toNat = some (bd, nd)) (hi : S i.toNat = some (bn, nn)) (s : ByteArray) (hkd : nd.kind = 1) (hs : nameB s = true) (hl : look nd.names s = none) (hi1 : i ≠ 1) (hkn : ¬ nn.kind = 1) (hlk : nn.links < 8) (hn : 40 ≤ nd.names.length) :
    Calls Try.prog 22 #[.pointer (some ⟨t, 0, none⟩), .int .i64 d, .string s, .int .i64 i] w fun e w' => e = .returned (.int .i64 9) ∧ w = w' := by
  obtain ⟨m, hm⟩ := h.dir_mp hd hkd
  have c10 : w.cell? ⟨bd, 10, none⟩ = some (.map (some m)) := by rw [h.c10 hd, hm]
  have hlen : ∀ ty, (Builtin.len_ #[84] ty #[.map (some m)]).run Try.prog w = .ok (.int .i64 nd.names.length) w := fun ty => hm ▸ h.len hd ty
  have c1 : w.cell? ⟨bd, 1, none⟩ = some (.int .i64 1) := by rw [h.c1 hd, hkd]
  have HK := Lib.hid hkd
  have HL := Lib.hid hl
  have hib : (i == 1) = false := by simpa using hi1
  have d1 := h.c1 hi
  have d5 := h.c5 hi
  have hkb : (nn.kind == 1) = false := by simpa using hkn
  have hn1 : 40 ≤ (nd.names.length : Int) := by omega
  have H := Lib.hid h
  have HD := Lib.hid hd
  have HI := Lib.hid hi
  clear h hd hi hkd hl hi1 hkn hm hn
  go_enter Try.func22, Try.ntmps22
  go_wp2_with fail
  refine (pair_ok H.out _ _ HD.out HI.out).mono ?_
  rintro e w' ⟨rfl, rfl⟩
  go_wp2_with fail
  refine (name_any _ _).mono ?_
  rintro e w' ⟨rfl, rfl⟩
  go_wp2_with fail
  refine (entry_none H.out HD.out HK.out _ HL.out).mono ?_
  rintro e w' ⟨rfl, rfl⟩
  go_wp2
  go_ret
  exact ⟨rfl, rfl⟩

/-- What a node is when an entry more leads to it. -/
def Nd.gained (n : Nd) (d : Nat) : Nd := { n with links := n.links + 1, parent := if n.kind = 1 then d else n.parent }
theorem Mv.named {w : World} {t b k : Nat} {S : Tab} {n : Nd} (h : Rep w t S) (hk : S k = some (b, n)) {m : Nat} (hm : n.mp = some m) (s : ByteArray) (x : Nat) (hs : look n.names s = none) (hn : n.names.length < 40) :
    ∃ w1, (Instr.mapUpdate 84 (.map (some m)) (.string s) (.int .i64 (x : Int))).run Try.prog w = .ok () w1 ∧ Mv w t S w1 (upd S k (some (b, { n with names := n.names ++ [(s, x)] }))) := by
  obtain ⟨es, c, hr, hok⟩ := run_update_new Try.underlying84 Try.underlying9 (h.map k b n m hk hm) s x hs
  exact ⟨_, hr, (Mv.refl h).setMap hk hm es c _ hok (by simp; omega)⟩
theorem Mv.gainedFile {w : World} {t b k : Nat} {S : Tab} {n : Nd} (h : Rep w t S) (hk : S k = some (b, n)) (hkd : n.kind ≠ 1) (d : Nat) :
    Mv w t S (w.setCell ⟨b, 5, none⟩ (.int .i64 (n.links + 1))) (upd S k (some (b, n.gained d))) :=
  (Mv.refl h).setNode hk 5 (.int .i64 (n.links + 1)) (n.gained d) (by simp [Nd.gained, Nd.cells, hkd]) rfl rfl rfl rfl (h.small k b n hk).1
theorem Mv.gainedDir {w : World} {t b k : Nat} {S : Tab} {n : Nd} (h : Rep w t S) (hk : S k = some (b, n)) (hkd : n.kind = 1) (d : Nat) :
    Mv w t S ((w.setCell ⟨b, 5, none⟩ (.int .i64 (n.links + 1))).setCell ⟨b, 11, none⟩ (.int .i64 (d : Int))) (upd S k (some (b, n.gained d))) := by
  have hsm := (h.small k b n hk).1
  have h1 := (Mv.refl h).setNode hk 5 (.int .i64 (n.links + 1)) { n with links := n.links + 1 } rfl rfl rfl rfl rfl hsm
  have h2 := h1.setNode (upd_same ..) 11 (.int .i64 (d : Int)) (n.gained d) (by simp [Nd.gained, Nd.cells, hkd]) rfl rfl rfl rfl hsm
  rw [upd_upd] at h2
  exact h2
def entered (S : Tab) (d i : Nat) (bd : Nat) (nd : Nd) (bn : Nat) (nn : Nd) (s : ByteArray) : Tab :=
  upd (upd S d (some (bd, { nd with names := nd.names ++ [(s, i)] }))) i (some (bn, nn.gained d))
set_option maxRecDepth 100000 in
set_option maxHeartbeats 400000 in
theorem enter_file {w : World} {t bd bn : Nat} {S : Tab} {nd nn : Nd} (h : Rep w t S) (d i : Int) (hd : S d.toNat = some (bd, nd)) (hi : S i.toNat = some (bn, nn)) (hkd : nd.kind = 1) (hkn : nn.kind ≠ 1) (s : ByteArray)
    (hs : nameB s = true) (hl : look nd.names s = none) (hi1 : i ≠ 1) (hlk : 0 ≤ nn.links ∧ nn.links < 8) (hn : nd.names.length < 40) :
    Calls Try.prog 22 #[.pointer (some ⟨t, 0, none⟩), .int .i64 d, .string s, .int .i64 i] w fun e w' => e = .returned (.int .i64 0) ∧ Mv w t S w' (entered S d.toNat i.toNat bd nd bn nn s) := by
  obtain ⟨m, hm⟩ := h.dir_mp hd hkd
  have hdi : i.toNat ≠ d.toNat := fun e => by rw [e, hd] at hi; cases hi; exact hkn hkd
  have hdp : ((d.toNat : Nat) : Int) = d := by have := h.rng _ _ hd; omega
  have hip : ((i.toNat : Nat) : Int) = i := by have := h.rng _ _ hi; omega
  obtain ⟨w1, hrun, hmv⟩ := Mv.named h hd hm s i.toNat hl hn
  rw [hip] at hrun
  have hi' : upd S d.toNat (some (bd, { nd with names := nd.names ++ [(s, i.toNat)] })) i.toNat = some (bn, nn) := by rw [upd_other _ _ hdi]; exact hi
  have c1 : w.cell? ⟨bd, 1, none⟩ = some (.int .i64 1) := by rw [h.c1 hd, hkd]
  have c10 : w.cell? ⟨bd, 10, none⟩ = some (.map (some m)) := by rw [h.c10 hd, hm]
  have d1 := h.c1 hi
  have d5 := h.c5 hi
  have e1 := hmv.rep.c1 hi'
  have e5 := hmv.rep.c5 hi'
  have g5 := hmv.rep.frozenN hi' 5
  have hlen : ∀ ty, (Builtin.len_ #[84] ty #[.map (some m)]).run Try.prog w = .ok (.int .i64 nd.names.length) w := fun ty => hm ▸ h.len hd ty
  have hkb : (nn.kind == 1) = false := by simpa using hkn
  have hib : (i == 1) = false := by simpa using hi1
  have hn1 : (nd.names.length : Int) < 40 := by omega
  obtain ⟨hlk1, hlk2⟩ := hlk
  have H := Lib.hid h
  have HD := Lib.hid hd
  have HI := Lib.hid hi
  have HL := Lib.hid hl
  have HM := Lib.hid hmv
  have HI' := Lib.hid hi'
  have HK := Lib.hid hkd
  have HN := Lib.hid hkn
  clear h hd hi hl hmv hi' hkd hkn hi1 hm hdi hn hdp hip
  go_enter Try.func22, Try.ntmps22
  go_wp2_with fail
  refine (pair_ok H.out _ _ HD.out HI.out).mono ?_
  rintro e w' ⟨rfl, rfl⟩
  go_wp2_with fail
  refine (name_any _ _).mono ?_
  rintro e w' ⟨rfl, rfl⟩
  go_wp2_with fail
  refine (entry_none H.out HD.out HK.out _ HL.out).mono ?_
  rintro e w' ⟨rfl, rfl⟩
  go_wp2
  go_ret
  exact ⟨rfl, HM.out.trans (Mv.gainedFile HM.out.rep HI'.out HN.out d.toNat)⟩
set_option maxHeartbeats 800000 in
theorem enter_dir {w : World} {t bd bn : Nat} {S : Tab} {T : IT.Tr} {nd nn : Nd} {q : IT.Nd} (h : Tre w t S T) (d i : Int) (hd : S d.toNat = some (bd, nd)) (hq : T d.toNat = some q) (hi : S i.toNat = some (bn, nn)) (hkd : nd.kind = 1) (hkn : nn.kind = 1) (s : ByteArray)
    (hs : nameB s = true) (hl : look nd.names s = none) (hi1 : i ≠ 1) (hlk : nn.links = 0) (hn : nd.names.length < 40) :
    Calls Try.prog 22 #[.pointer (some ⟨t, 0, none⟩), .int .i64 d, .string s, .int .i64 i] w fun e w' => (IT.Bel T i.toNat d.toNat ∧ e = .returned (.int .i64 8) ∧ Below w.heap.size w w') ∨ (¬ IT.Bel T i.toNat d.toNat ∧ e = .returned (.int .i64 0) ∧ Mv w t S w' (entered S d.toNat i.toNat bd nd bn nn s)) := by
  obtain ⟨m, hm⟩ := h.rep.dir_mp hd hkd
  have hqk : q.kind = 1 := by rw [← (h.ties.kept (kpOf_some hd) hq).kind]; exact hkd
  have hwi := within_any h hd hi hq hqk
  have c1 : w.cell? ⟨bd, 1, none⟩ = some (.int .i64 1) := by rw [h.rep.c1 hd, hkd]
  have c10 : w.cell? ⟨bd, 10, none⟩ = some (.map (some m)) := by rw [h.rep.c10 hd, hm]
  have d1 : w.cell? ⟨bn, 1, none⟩ = some (.int .i64 1) := by rw [h.rep.c1 hi, hkn]
  have d5 : w.cell? ⟨bn, 5, none⟩ = some (.int .i64 0) := by rw [h.rep.c5 hi, hlk]
  have hlen : ∀ ty, (Builtin.len_ #[84] ty #[.map (some m)]).run Try.prog w = .ok (.int .i64 nd.names.length) w := fun ty => hm ▸ h.rep.len hd ty
  have hib : (i == 1) = false := by simpa using hi1
  have hn1 : (nd.names.length : Int) < 40 := by omega
  have H := Lib.hid h.rep
  have HD := Lib.hid hd
  have HI := Lib.hid hi
  have HL := Lib.hid hl
  have HK := Lib.hid hkd
  have HN := Lib.hid hkn
  have HM := Lib.hid hm
  have HO := Lib.hid hlk
  have HQ := Lib.hid hn
  have HW := Lib.hid hwi
  have HDP : Hid (((d.toNat : Nat) : Int) = d) := Lib.hid (by have := h.rep.rng _ _ hd; omega)
  have HIP : Hid (((i.toNat : Nat) : Int) = i) := Lib.hid (by have := h.rep.rng _ _ hi; omega)
  have HX : Hid (∀ b1 : Nat, i.toNat = d.toNat → IT.Bel T i.toNat d.toNat) := Lib.hid (fun _ e => e ▸ .self)
  clear h hd hi hl hkd hkn hi1 hm hn hlk hq hqk hwi
  go_enter Try.func22, Try.ntmps22
  go_wp2_with fail
  refine (pair_ok H.out _ _ HD.out HI.out).mono ?_
  rintro e w' ⟨rfl, rfl⟩
  go_wp2_with fail
  refine (name_any _ _).mono ?_
  rintro e w' ⟨rfl, rfl⟩
  go_wp2_with fail
  refine (entry_none H.out HD.out HK.out _ HL.out).mono ?_
  rintro e w' ⟨rfl, rfl⟩
  go_wp2_with fail
  refine HW.out.mono ?_
  rintro e w' ⟨r, rfl, hr, hb⟩
  have HB := Lib.hid hb
  clear HW
  cases r with
  | true =>
    have HR := Lib.hid (hr.1 rfl)
    clear hr hb c1 c10 d1 d5
    go_wp2
    go_ret
    exact .inl ⟨HR.out, rfl, HB.out⟩
  | false =>
    have HR : Hid (¬ IT.Bel T i.toNat d.toNat) := Lib.hid (fun hh => by cases hr.2 hh)
    have hdi : i.toNat ≠ d.toNat := fun e => HR.out (HX.out 0 e)
    have hmb := (Mv.refl H.out).below hb
    have h := hmb.rep
    obtain ⟨w1, hrun, hmv⟩ := Mv.named h HD.out HM.out s i.toNat HL.out HQ.out
    rw [HIP.out] at hrun
    have HI' : Hid (upd S d.toNat (some (bd, { nd with names := nd.names ++ [(s, i.toNat)] })) i.toNat = some (bn, nn)) := Lib.hid (by rw [upd_other _ _ hdi]; exact HI.out)
    have r1 : w'.cell? ⟨bd, 1, none⟩ = some (.int .i64 1) := by rw [h.c1 HD.out, HK.out]
    have r10 : w'.cell? ⟨bd, 10, none⟩ = some (.map (some m)) := by rw [h.c10 HD.out, HM.out]
    have e1 : w1.cell? ⟨bn, 1, none⟩ = some (.int .i64 1) := by rw [hmv.rep.c1 HI'.out, HN.out]
    have e5 : w1.cell? ⟨bn, 5, none⟩ = some (.int .i64 0) := by rw [hmv.rep.c5 HI'.out, HO.out]
    have e11 := hmv.rep.c11 HI'.out
    have g5 := hmv.rep.frozenN HI'.out 5
    have g11 := hmv.rep.frozenN HI'.out 11
    have HV := Lib.hid (hmb.trans hmv)
    have HR2 := Lib.hid hmv
    clear hmb h hmv hb c1 c10 d1 d5 hr hdi
    go_wp2
    go_ret
    have h2 := HV.out.trans (Mv.gainedDir HR2.out.rep HI'.out HN.out d.toNat)
    rw [HO.out, HDP.out] at h2
    exact .inr ⟨HR.out, rfl, h2⟩
theorem kp_gained (n : Nd) (d : Nat) : kp (n.gained d) = { kp n with links := (kp n).links + 1, parent := if (kp n).kind = 1 then d else (kp n).parent } := rfl
open Classical in
theorem enter_any {w : World} {t : Nat} {S : Tab} {T : IT.Tr} (h : Tre w t S T) (d i : Int) (s : ByteArray) :
    Calls Try.prog 22 #[.pointer (some ⟨t, 0, none⟩), .int .i64 d, .string s, .int .i64 i] w fun e w' => ∃ r, e = .returned (.int .i64 r) ∧ Stp w t S (fun T' => IT.isEnter okN T d.toNat (bs s) i.toNat r T') w' := by
  have hstay : ∀ {r : Int} {e : Ending} {w' : World}, IT.isEnter okN T d.toNat (bs s) i.toNat r T → e = .returned (.int .i64 r) ∧ w = w' → ∃ r, e = .returned (.int .i64 r) ∧ Stp w t S (fun T' => IT.isEnter okN T d.toNat (bs s) i.toNat r T') w' := by
    rintro r e w' hr ⟨rfl, rfl⟩
    exact ⟨r, rfl, Stp.keep h hr⟩
  cases hd : S d.toNat with
  | none =>
    refine (enter_no h.rep d i s (.inl hd)).mono fun e w' => hstay ?_
    unfold IT.isEnter; rw [(h.none_iff _).1 hd]; exact ⟨rfl, rfl⟩
  | some p1 =>
    obtain ⟨bd, nd⟩ := p1
    obtain ⟨n, hT, hkp⟩ := h.get hd
    cases hi : S i.toNat with
    | none =>
      refine (enter_no h.rep d i s (.inr hi)).mono fun e w' => hstay ?_
      unfold IT.isEnter; rw [hT, (h.none_iff _).1 hi]; exact ⟨rfl, rfl⟩
    | some p2 =>
      obtain ⟨bn, nn⟩ := p2
      obtain ⟨m, hX, hkx⟩ := h.get hi
      have hkd : nd.kind = n.kind := hkp.kind
      have hkn : nn.kind = m.kind := hkx.kind
      have hlk : nn.links = (IT.lnk T i.toNat : Int) := hkx.links
      have hlen : nd.names.length = n.names.length := by
        have e8 : (ents nd.names).Perm n.names := hkp.names
        rw [← e8.length_eq]; simp [ents]
      have hri := h.rep.rng _ _ hi
      have hrd := h.rep.rng _ _ hd
      have hi1 : i.toNat = 1 ↔ i = 1 := by omega
      unfold IT.isEnter
      rw [hT, hX]
      dsimp only
      by_cases h1 : n.kind = 1
      · by_cases h2 : nameB s = true
        · have hok : okN (bs s) = true := by rw [← nameB_ok]; exact h2
          have hlo := h.look hd hT s
          cases hl : look nd.names s with
          | some x =>
            obtain ⟨mx, hmx⟩ := h.snd.1.lead _ n (bs s, x) hT (IT.find_mem (hlo ▸ hl))
            obtain ⟨bx, nx, hSx, _⟩ := h.back hmx
            refine (enter_is h.rep d i hd hi s (hkd.trans h1) h2 hl hSx).mono ?_
            rintro e w' ⟨rfl, rfl⟩
            refine ⟨5, rfl, Stp.keep h ?_⟩
            rw [if_neg (fun hh => hh h1), if_neg (by rw [hok]; intro e; cases e), if_pos (by rw [← hlo, hl]; intro e; cases e)]
            exact ⟨rfl, rfl⟩
          | none =>
            have hfn : IT.findN (bs s) n.names = none := by rw [← hlo]; exact hl
            have hpre : ∀ {r : Int} {T' : IT.Tr}, (if i.toNat = 1 ∨ (m.kind = 1 ∧ IT.lnk T i.toNat > 0) ∨ IT.lnk T i.toNat ≥ 8 then r = 12 ∧ T' = T
                else if n.names.length ≥ 40 then r = 9 ∧ T' = T else if m.kind = 1 ∧ IT.Bel T i.toNat d.toNat then r = 8 ∧ T' = T else r = 0 ∧ T' = IT.entT T d.toNat i.toNat (bs s) n m) →
                (if ¬n.kind = 1 then r = 6 ∧ T' = T else if okN (bs s) = false then r = 1 ∧ T' = T else if IT.findN (bs s) n.names ≠ none then r = 5 ∧ T' = T
                else if i.toNat = 1 ∨ (m.kind = 1 ∧ IT.lnk T i.toNat > 0) ∨ IT.lnk T i.toNat ≥ 8 then r = 12 ∧ T' = T
                else if n.names.length ≥ 40 then r = 9 ∧ T' = T else if m.kind = 1 ∧ IT.Bel T i.toNat d.toNat then r = 8 ∧ T' = T else r = 0 ∧ T' = IT.entT T d.toNat i.toNat (bs s) n m) := by
              intro r T' hh
              rw [if_neg (fun hh => hh h1), if_neg (by rw [hok]; intro e; cases e), if_neg (fun hh => hh hfn)]
              exact hh
            have hkd1 := hkd.trans h1
            by_cases h3 : i = 1
            · refine (enter_root h.rep d i hd hi s hkd1 h2 hl h3).mono ?_
              rintro e w' ⟨rfl, rfl⟩
              refine ⟨12, rfl, Stp.keep h (hpre ?_)⟩
              rw [if_pos (.inl (hi1.2 h3))]; exact ⟨rfl, rfl⟩
            · by_cases h4 : m.kind = 1
              · by_cases h5 : IT.lnk T i.toNat > 0
                · refine (enter_manyd h.rep d i hd hi s hkd1 h2 hl h3 (hkn.trans h4) (by omega)).mono ?_
                  rintro e w' ⟨rfl, rfl⟩
                  refine ⟨12, rfl, Stp.keep h (hpre ?_)⟩
                  rw [if_pos (.inr (.inl ⟨h4, h5⟩))]; exact ⟨rfl, rfl⟩
                · have n5 : ¬ (i.toNat = 1 ∨ (m.kind = 1 ∧ IT.lnk T i.toNat > 0) ∨ IT.lnk T i.toNat ≥ 8) := by
                    rintro (a | a | a)
                    · exact h3 (hi1.1 a)
                    · exact h5 a.2
                    · omega
                  by_cases h6 : n.names.length ≥ 40
                  · refine (enter_fulld h.rep d i hd hi s hkd1 h2 hl h3 (hkn.trans h4) (by omega) (by omega)).mono ?_
                    rintro e w' ⟨rfl, rfl⟩
                    refine ⟨9, rfl, Stp.keep h (hpre ?_)⟩
                    rw [if_neg n5, if_pos h6]; exact ⟨rfl, rfl⟩
                  · refine (enter_dir h d i hd hT hi hkd1 (hkn.trans h4) s h2 hl h3 (by omega) (by omega)).mono ?_
                    rintro e w' (⟨hbel, rfl, hb⟩ | ⟨hbel, rfl, hmv⟩)
                    · refine ⟨8, rfl, Stp.keepB h hb (hpre ?_)⟩
                      rw [if_neg n5, if_neg h6, if_pos ⟨h4, hbel⟩]; exact ⟨rfl, rfl⟩
                    · have hne : i.toNat ≠ d.toNat := fun e => hbel (e ▸ .self)
                      refine ⟨0, rfl, _, IT.entT T d.toNat i.toNat (bs s) n m, hmv, ?_, hpre ?_⟩
                      · unfold entered
                        rw [kpOf_upd, kpOf_upd, kp_gained, IT.updK_comm _ (Ne.symm hne)]
                        exact h.ties.ent hT hX hne hrd.2 hri.2 (kpOf_some hd) (kpOf_some hi) (ents (nd.names ++ [(s, i.toNat)])) (by
                          show (ents (nd.names ++ [(s, i.toNat)])).Perm ((bs s, i.toNat) :: ents nd.names)
                          unfold ents
                          rw [List.map_append]
                          exact List.perm_append_comm)
                      · rw [if_neg n5, if_neg h6, if_neg (fun hh => hbel hh.2)]; exact ⟨rfl, rfl⟩
              · by_cases h5 : IT.lnk T i.toNat ≥ 8
                · refine (enter_manyf h.rep d i hd hi s hkd1 h2 hl h3 (by rw [hkn]; exact h4) (by omega)).mono ?_
                  rintro e w' ⟨rfl, rfl⟩
                  refine ⟨12, rfl, Stp.keep h (hpre ?_)⟩
                  rw [if_pos (.inr (.inr h5))]; exact ⟨rfl, rfl⟩
                · have n5 : ¬ (i.toNat = 1 ∨ (m.kind = 1 ∧ IT.lnk T i.toNat > 0) ∨ IT.lnk T i.toNat ≥ 8) := by
                    rintro (a | a | a)
                    · exact h3 (hi1.1 a)
                    · exact h4 a.1
                    · exact h5 a
                  by_cases h6 : n.names.length ≥ 40
                  · refine (enter_fullf h.rep d i hd hi s hkd1 h2 hl h3 (by rw [hkn]; exact h4) (by omega) (by omega)).mono ?_
                    rintro e w' ⟨rfl, rfl⟩
                    refine ⟨9, rfl, Stp.keep h (hpre ?_)⟩
                    rw [if_neg n5, if_pos h6]; exact ⟨rfl, rfl⟩
                  · refine (enter_file h.rep d i hd hi hkd1 (by rw [hkn]; exact h4) s h2 hl h3 ⟨by omega, by omega⟩ (by omega)).mono ?_
                    rintro e w' ⟨rfl, hmv⟩
                    have hne : i.toNat ≠ d.toNat := fun e => by
                      rw [e, hT] at hX; obtain rfl := Option.some.inj hX
                      exact h4 h1
                    refine ⟨0, rfl, _, IT.entT T d.toNat i.toNat (bs s) n m, hmv, ?_, hpre ?_⟩
                    · unfold entered
                      rw [kpOf_upd, kpOf_upd, kp_gained, IT.updK_comm _ (Ne.symm hne)]
                      exact h.ties.ent hT hX hne hrd.2 hri.2 (kpOf_some hd) (kpOf_some hi) (ents (nd.names ++ [(s, i.toNat)])) (by
                        show (ents (nd.names ++ [(s, i.toNat)])).Perm ((bs s, i.toNat) :: ents nd.names)
                        unfold ents
                        rw [List.map_append]
                        exact List.perm_append_comm)
                    · rw [if_neg n5, if_neg h6, if_neg (fun hh => h4 hh.1)]; exact ⟨rfl, rfl⟩
        · have h2 : nameB s = false := by simpa using h2
          refine (enter_noname h.rep d i hd hi s (hkd.trans h1) h2).mono ?_
          rintro e w' ⟨rfl, rfl⟩
          refine ⟨1, rfl, Stp.keep h ?_⟩
          rw [if_neg (fun hh => hh h1), if_pos (by rw [← nameB_ok]; exact h2)]; exact ⟨rfl, rfl⟩
      · refine (enter_nodir h.rep d i hd hi s (by rw [hkd]; exact h1)).mono ?_
        rintro e w' ⟨rfl, rfl⟩
        refine ⟨6, rfl, Stp.keep h ?_⟩
        rw [if_pos h1]; exact ⟨rfl, rfl⟩
end Go.Proofs.Ytafonmnfeibaiaa
