import Derived.Test.YtinmdegmnepheaaWalkH
namespace Go.Proofs.Ytinmdegmnepheaa
open Go.RowKit

/-! ### Remove -/
theorem Mv.unnamed {w : World} {t b k : Nat} {S : Tab} {n : Nd} (h : Rep w t S) (hk : S k = some (b, n)) {m : Nat} (hm : n.mp = some m) (s : ByteArray) (x : Int) (hs : look n.names s = some x) :
    ∃ w1, (∀ ty, (Builtin.delete_ #[53, 9] ty #[.map (some m), .string s]).run Try.prog w = .ok (.tuple #[]) w1) ∧ Mv w t S w1 (upd S k (some (b, { n with names := delL n.names s }))) := by
  obtain ⟨es, c, hr, hok⟩ := run_delete_some Try.underlying53 Try.underlying9 (h.map k b n m hk hm) s x hs 0
  refine ⟨w.putObj m (.map es c), fun ty => hr, (Mv.refl h).setMap hk hm es c _ hok ?_⟩
  have := (h.small k b n hk).2
  have h2 : (delL n.names s).length ≤ n.names.length := List.length_eraseP_le
  omega

/-- A directory behind the loss of a name. -/
def unnamed (S : Tab) (d bd : Nat) (nd : Nd) (s : ByteArray) : Tab := upd S d (some (bd, { nd with names := delL nd.names s }))

set_option maxHeartbeats 400000 in
theorem remove_keep {w : World} {t bd bn : Nat} {S : Tab} {nd nn : Nd} (h : Rep w t S) (d x : Int) (hd : S d.toNat = some (bd, nd)) (hx : S x.toNat = some (bn, nn)) (hkd : nd.kind = 1) (s : ByteArray)
    (hl : look nd.names s = some x) (hdx : x.toNat ≠ d.toNat) (hnn : nn.names = []) (hb : 0 ≤ nn.links ∧ nn.links ≤ 1000) (hc : 1 < nn.links ∨ 0 < nn.holds ∨ nn.ino = 1) :
    Calls Try.prog 16 #[.pointer (some ⟨t, 0, none⟩), .int .i64 d, .string s] w fun e w' => e = .returned (.int .i64 0) ∧ Mv w t S w' (upd (unnamed S d.toNat bd nd s) x.toNat (some (bn, nn.lost))) := by
  obtain ⟨m, hm⟩ := h.dir_mp hd hkd
  obtain ⟨w1, hrun, hmv⟩ := Mv.unnamed h hd hm s x hl
  have hx' : unnamed S d.toNat bd nd s x.toNat = some (bn, nn) := by unfold unnamed; rw [upd_other _ _ hdx]; exact hx
  have c1 : w.cell? ⟨bd, 1, none⟩ = some (.int .i64 1) := by rw [h.c1 hd, hkd]
  have c10 : w.cell? ⟨bd, 10, none⟩ = some (.map (some m)) := by rw [h.c10 hd, hm]
  have d10 := h.c10 hx
  have hlen : ∀ ty, (Builtin.len_ #[53] ty #[.map nn.mp]).run Try.prog w = .ok (.int .i64 0) w := fun ty => by have := h.len hx ty; rw [hnn] at this; exact this
  have H := Lib.hid h
  have HD := Lib.hid hd
  have HX := Lib.hid hx
  have HL := Lib.hid hl
  have HK := Lib.hid hkd
  have HM := Lib.hid hmv
  have HX' := Lib.hid hx'
  have HC := Lib.hid hc
  have HB := Lib.hid hb
  clear h hd hx hl hkd hmv hx' hnn hdx hm hc hb
  go_enter Try.func16, Try.ntmps16
  go_wp2_with fail
  refine (H.out.at_some _ HD.out).mono ?_
  rintro e w' ⟨rfl, rfl⟩
  go_wp2_with fail
  refine (entry_some H.out HD.out HK.out _ _ HL.out HX.out).mono ?_
  rintro e w' ⟨rfl, rfl⟩
  go_wp2_with fail
  refine (loses_keep HM.out.rep HX'.out HB.out HC.out).mono ?_
  rintro e w' ⟨rfl, hmv⟩
  have HV := Lib.hid hmv
  clear hmv
  go_wp2
  go_ret
  exact ⟨rfl, HM.out.trans HV.out⟩

set_option maxHeartbeats 400000 in
theorem remove_free {w : World} {t bd bn : Nat} {S : Tab} {nd nn : Nd} (h : Rep w t S) (d x : Int) (hd : S d.toNat = some (bd, nd)) (hx : S x.toNat = some (bn, nn)) (hkd : nd.kind = 1) (s : ByteArray)
    (hl : look nd.names s = some x) (hdx : x.toNat ≠ d.toNat) (hnn : nn.names = []) (hb : 0 ≤ nn.links) (hb1 : nn.links ≤ 1) (hh : nn.holds ≤ 0) (hi : nn.ino ≠ 1) :
    Calls Try.prog 16 #[.pointer (some ⟨t, 0, none⟩), .int .i64 d, .string s] w fun e w' => e = .returned (.int .i64 0) ∧ Mv w t S w' (upd (unnamed S d.toNat bd nd s) x.toNat none) := by
  obtain ⟨m, hm⟩ := h.dir_mp hd hkd
  obtain ⟨w1, hrun, hmv⟩ := Mv.unnamed h hd hm s x hl
  have hx' : unnamed S d.toNat bd nd s x.toNat = some (bn, nn) := by unfold unnamed; rw [upd_other _ _ hdx]; exact hx
  have c1 : w.cell? ⟨bd, 1, none⟩ = some (.int .i64 1) := by rw [h.c1 hd, hkd]
  have c10 : w.cell? ⟨bd, 10, none⟩ = some (.map (some m)) := by rw [h.c10 hd, hm]
  have d10 := h.c10 hx
  have hlen : ∀ ty, (Builtin.len_ #[53] ty #[.map nn.mp]).run Try.prog w = .ok (.int .i64 0) w := fun ty => by have := h.len hx ty; rw [hnn] at this; exact this
  have H := Lib.hid h
  have HD := Lib.hid hd
  have HX := Lib.hid hx
  have HL := Lib.hid hl
  have HK := Lib.hid hkd
  have HM := Lib.hid hmv
  have HX' := Lib.hid hx'
  have HC := Lib.hid (And.intro hb (And.intro hb1 (And.intro hh (And.intro hi hnn))))
  clear h hd hx hl hkd hmv hx' hnn hdx hm hb hb1 hh hi
  go_enter Try.func16, Try.ntmps16
  go_wp2_with fail
  refine (H.out.at_some _ HD.out).mono ?_
  rintro e w' ⟨rfl, rfl⟩
  go_wp2_with fail
  refine (entry_some H.out HD.out HK.out _ _ HL.out HX.out).mono ?_
  rintro e w' ⟨rfl, rfl⟩
  go_wp2_with fail
  refine (loses_free HM.out.rep HX'.out HC.out.1 HC.out.2.1 HC.out.2.2.1 HC.out.2.2.2.1 HC.out.2.2.2.2).mono ?_
  rintro e w' ⟨rfl, hmv⟩
  have HV := Lib.hid hmv
  clear hmv
  go_wp2
  go_ret
  exact ⟨rfl, HM.out.trans HV.out⟩
end Go.Proofs.Ytinmdegmnepheaa
