import Derived.Test.YtinmdegmnepheaaWalkD
namespace Go.Proofs.Ytinmdegmnepheaa
open Go.RowKit

def Nd.lost (n : Nd) : Nd := { n with links := n.links - 1, parent := if n.kind = 1 then n.ino else n.parent }

/-- An entry that led to a node is lost: its fields behind that. -/
theorem Mv.lost {w : World} {t b k : Nat} {S : Tab} {n : Nd} (h : Rep w t S) (hk : S k = some (b, n)) (hkd : n.kind = 1) :
    Mv w t S ((w.setCell ⟨b, 5, none⟩ (.int .i64 (n.links - 1))).setCell ⟨b, 11, none⟩ (.int .i64 n.ino)) (upd S k (some (b, n.lost))) := by
  have hsm := (h.small k b n hk).1
  have h1 := (Mv.refl h).setNode hk 5 (.int .i64 (n.links - 1)) { n with links := n.links - 1 } rfl rfl rfl rfl rfl hsm
  have h2 := h1.setNode (upd_same ..) 11 (.int .i64 n.ino) n.lost (by simp [Nd.lost, Nd.cells, hkd]) rfl rfl rfl rfl hsm
  rw [upd_upd] at h2
  exact h2
theorem Mv.lost' {w : World} {t b k : Nat} {S : Tab} {n : Nd} (h : Rep w t S) (hk : S k = some (b, n)) (hkd : n.kind ≠ 1) :
    Mv w t S (w.setCell ⟨b, 5, none⟩ (.int .i64 (n.links - 1))) (upd S k (some (b, n.lost))) := by
  have hsm := (h.small k b n hk).1
  exact (Mv.refl h).setNode hk 5 (.int .i64 (n.links - 1)) n.lost (by simp [Nd.lost, Nd.cells, hkd]) rfl rfl rfl rfl hsm

set_option maxHeartbeats 400000 in
theorem loses_keep {w : World} {t b k : Nat} {S : Tab} {n : Nd} (h : Rep w t S) (hk : S k = some (b, n)) (hb : 0 ≤ n.links ∧ n.links ≤ 1000) (hc : 1 < n.links ∨ 0 < n.holds ∨ n.ino = 1) :
    Calls Try.prog 28 #[.pointer (some ⟨t, 0, none⟩), .pointer (some ⟨b, 0, none⟩)] w fun e w' => e = .returned (.tuple #[]) ∧ Mv w t S w' (upd S k (some (b, n.lost))) := by
  have c0 := h.c0 hk
  have c1 := h.c1 hk
  have c5 := h.c5 hk
  have c11 := h.c11 hk
  have f5 := h.frozenN hk 5
  have f11 := h.frozenN hk 11
  obtain ⟨hb1, hb2⟩ := hb
  have H := Lib.hid h
  have HK := Lib.hid hk
  have HC : Hid (0 < n.lost.links ∨ 0 < n.lost.holds ∨ n.lost.ino = 1) := Lib.hid (by simp only [Nd.lost]; omega)
  clear h hk hc
  by_cases hkd : n.kind = 1
  · have hkb : (n.kind == 1) = true := by simpa using hkd
    have HD := Lib.hid hkd
    clear hkd
    go_enter Try.func28, Try.ntmps28
    go_wp2_with fail
    refine (gone_keep (Mv.lost H.out HK.out HD.out).rep (upd_same ..) HC.out).mono ?_
    rintro e w' ⟨rfl, rfl⟩
    go_wp2
    go_end0
    exact ⟨rfl, Mv.lost H.out HK.out HD.out⟩
  · have hkb : (n.kind == 1) = false := by simpa using hkd
    have HD := Lib.hid hkd
    clear hkd
    go_enter Try.func28, Try.ntmps28
    go_wp2_with fail
    refine (gone_keep (Mv.lost' H.out HK.out HD.out).rep (upd_same ..) HC.out).mono ?_
    rintro e w' ⟨rfl, rfl⟩
    go_wp2
    go_end0
    exact ⟨rfl, Mv.lost' H.out HK.out HD.out⟩

set_option maxHeartbeats 400000 in
theorem loses_free {w : World} {t b k : Nat} {S : Tab} {n : Nd} (h : Rep w t S) (hk : S k = some (b, n)) (hb : 0 ≤ n.links) (hl : n.links ≤ 1) (hh : n.holds ≤ 0) (hi : n.ino ≠ 1) (hn : n.names = []) :
    Calls Try.prog 28 #[.pointer (some ⟨t, 0, none⟩), .pointer (some ⟨b, 0, none⟩)] w fun e w' => e = .returned (.tuple #[]) ∧ Mv w t S w' (upd S k none) := by
  have c0 := h.c0 hk
  have c1 := h.c1 hk
  have c5 := h.c5 hk
  have c11 := h.c11 hk
  have f5 := h.frozenN hk 5
  have f11 := h.frozenN hk 11
  have H := Lib.hid h
  have HK := Lib.hid hk
  have HC : Hid (n.lost.links ≤ 0 ∧ n.lost.holds ≤ 0 ∧ n.lost.ino ≠ 1 ∧ n.lost.names = []) := Lib.hid ⟨by simp only [Nd.lost]; omega, hh, hi, hn⟩
  clear h hk hi hn hh
  by_cases hkd : n.kind = 1
  · have hkb : (n.kind == 1) = true := by simpa using hkd
    have HD := Lib.hid hkd
    clear hkd
    go_enter Try.func28, Try.ntmps28
    go_wp2_with fail
    refine (gone_free (Mv.lost H.out HK.out HD.out).rep (upd_same ..) HC.out.1 HC.out.2.1 HC.out.2.2.1 HC.out.2.2.2).mono ?_
    rintro e w' ⟨rfl, hm⟩
    have HM := Lib.hid hm
    clear hm
    go_wp2
    go_end0
    have h2 := (Mv.lost H.out HK.out HD.out).trans HM.out
    rw [upd_upd] at h2
    exact ⟨rfl, h2⟩
  · have hkb : (n.kind == 1) = false := by simpa using hkd
    have HD := Lib.hid hkd
    clear hkd
    go_enter Try.func28, Try.ntmps28
    go_wp2_with fail
    refine (gone_free (Mv.lost' H.out HK.out HD.out).rep (upd_same ..) HC.out.1 HC.out.2.1 HC.out.2.2.1 HC.out.2.2.2).mono ?_
    rintro e w' ⟨rfl, hm⟩
    have HM := Lib.hid hm
    clear hm
    go_wp2
    go_end0
    have h2 := (Mv.lost' H.out HK.out HD.out).trans HM.out
    rw [upd_upd] at h2
    exact ⟨rfl, h2⟩

/-! ### Drop and Hold -/
set_option maxHeartbeats 400000 in
theorem drop_none {w : World} {t : Nat} {S : Tab} (h : Rep w t S) (ki : Int) (hk : S ki.toNat = none) :
    Calls Try.prog 9 #[.pointer (some ⟨t, 0, none⟩), .int .i64 ki] w fun e w' => e = .returned (.bool false) ∧ w = w' := by
  have H := Lib.hid h
  have HK := Lib.hid hk
  clear h hk
  go_enter Try.func9, Try.ntmps9
  go_wp2_with fail
  refine (H.out.at_none _ HK.out).mono ?_
  rintro e w' ⟨rfl, rfl⟩
  go_wp2
  go_ret
  exact ⟨rfl, rfl⟩

theorem Mv.dropped {w : World} {t b k : Nat} {S : Tab} {n : Nd} (h : Rep w t S) (hk : S k = some (b, n)) :
    Mv w t S (w.setCell ⟨b, 8, none⟩ (.int .i64 (n.holds - 1))) (upd S k (some (b, { n with holds := n.holds - 1 }))) :=
  (Mv.refl h).setNode hk 8 (.int .i64 (n.holds - 1)) { n with holds := n.holds - 1 } rfl rfl rfl rfl rfl (h.small k b n hk).1

set_option maxHeartbeats 400000 in
theorem drop_keep {w : World} {t b : Nat} {S : Tab} {n : Nd} (h : Rep w t S) (ki : Int) (hk : S ki.toNat = some (b, n)) (hb : 0 < n.holds ∧ n.holds ≤ 1000000) (hc : 0 < n.links ∨ 1 < n.holds ∨ n.ino = 1) :
    Calls Try.prog 9 #[.pointer (some ⟨t, 0, none⟩), .int .i64 ki] w fun e w' => e = .returned (.bool true) ∧ Mv w t S w' (upd S ki.toNat (some (b, { n with holds := n.holds - 1 }))) := by
  have c8 := h.c8 hk
  have f8 := h.frozenN hk 8
  obtain ⟨hb1, hb2⟩ := hb
  have hb3 : (n.holds == 0) = false := by simp; omega
  have H := Lib.hid h
  have HK := Lib.hid hk
  have HC : Hid (0 < n.links ∨ 0 < n.holds - 1 ∨ n.ino = 1) := Lib.hid (by omega)
  clear h hk hc
  go_enter Try.func9, Try.ntmps9
  go_wp2_with fail
  refine (H.out.at_some _ HK.out).mono ?_
  rintro e w' ⟨rfl, rfl⟩
  go_wp2_with fail
  refine (gone_keep (Mv.dropped H.out HK.out).rep (upd_same ..) HC.out).mono ?_
  rintro e w' ⟨rfl, rfl⟩
  go_wp2
  go_ret
  exact ⟨rfl, Mv.dropped H.out HK.out⟩

set_option maxHeartbeats 400000 in
theorem drop_free {w : World} {t b : Nat} {S : Tab} {n : Nd} (h : Rep w t S) (ki : Int) (hk : S ki.toNat = some (b, n)) (hb : n.holds = 1) (hl : n.links ≤ 0) (hi : n.ino ≠ 1) (hn : n.names = []) :
    Calls Try.prog 9 #[.pointer (some ⟨t, 0, none⟩), .int .i64 ki] w fun e w' => e = .returned (.bool true) ∧ Mv w t S w' (upd S ki.toNat none) := by
  have c8 := h.c8 hk
  have f8 := h.frozenN hk 8
  have hb1 : 0 < n.holds := by omega
  have hb2 : n.holds ≤ 1 := by omega
  have hb3 : (n.holds == 0) = false := by simp; omega
  have H := Lib.hid h
  have HK := Lib.hid hk
  have HC : Hid (n.links ≤ 0 ∧ n.holds - 1 ≤ 0 ∧ n.ino ≠ 1 ∧ n.names = []) := Lib.hid ⟨hl, by omega, hi, hn⟩
  clear h hk hi hn hb
  go_enter Try.func9, Try.ntmps9
  go_wp2_with fail
  refine (H.out.at_some _ HK.out).mono ?_
  rintro e w' ⟨rfl, rfl⟩
  go_wp2_with fail
  refine (gone_free (Mv.dropped H.out HK.out).rep (upd_same ..) HC.out.1 HC.out.2.1 HC.out.2.2.1 HC.out.2.2.2).mono ?_
  rintro e w' ⟨rfl, hm⟩
  have HM := Lib.hid hm
  clear hm
  go_wp2
  go_ret
  have h2 := (Mv.dropped H.out HK.out).trans HM.out
  rw [upd_upd] at h2
  exact ⟨rfl, h2⟩

set_option maxHeartbeats 400000 in
theorem hold_some {w : World} {t b : Nat} {S : Tab} {n : Nd} (h : Rep w t S) (ki : Int) (hk : S ki.toNat = some (b, n)) (hb : 0 ≤ n.holds ∧ n.holds ≤ 1000000) :
    Calls Try.prog 15 #[.pointer (some ⟨t, 0, none⟩), .int .i64 ki] w fun e w' => e = .returned (.bool true) ∧ Mv w t S w' (upd S ki.toNat (some (b, { n with holds := n.holds + 1 }))) := by
  have c8 := h.c8 hk
  have f8 := h.frozenN hk 8
  obtain ⟨hb1, hb2⟩ := hb
  have H := Lib.hid h
  have HK := Lib.hid hk
  clear h hk
  go_enter Try.func15, Try.ntmps15
  go_wp2_with fail
  refine (H.out.at_some _ HK.out).mono ?_
  rintro e w' ⟨rfl, rfl⟩
  go_wp2
  go_ret
  exact ⟨rfl, (Mv.refl H.out).setNode HK.out 8 (.int .i64 (n.holds + 1)) { n with holds := n.holds + 1 } rfl rfl rfl rfl rfl (H.out.small _ b n HK.out).1⟩

set_option maxHeartbeats 400000 in
theorem data_some {w : World} {t b : Nat} {S : Tab} {n : Nd} (h : Rep w t S) (ki : Int) (hk : S ki.toNat = some (b, n)) :
    Calls Try.prog 12 #[.pointer (some ⟨t, 0, none⟩), .int .i64 ki] w fun e w' => e = .returned (.string n.data) ∧ w = w' := by
  have c9 := h.c9 hk
  have H := Lib.hid h
  have HK := Lib.hid hk
  clear h hk
  go_enter Try.func12, Try.ntmps12
  go_wp2_with fail
  refine (H.out.at_some _ HK.out).mono ?_
  rintro e w' ⟨rfl, rfl⟩
  go_wp2
  go_ret
  exact ⟨rfl, rfl⟩

set_option maxHeartbeats 400000 in
theorem stat_none {w : World} {t : Nat} {S : Tab} (h : Rep w t S) (k : Int) (hk : S k.toNat = none) :
    Calls Try.prog 10 #[.pointer (some ⟨t, 0, none⟩), .int .i64 k] w fun e w' => e = .returned (.tuple #[noInfo, .bool false]) ∧ Below w.heap.size w w' := by
  have H := Lib.hid h
  have HK := Lib.hid hk
  clear h hk
  go_enter Try.func10, Try.ntmps10
  go_wp2_with fail
  refine (((Mv.refl H.out).alloc _).rep.at_none _ HK.out).mono ?_
  rintro e w' ⟨rfl, rfl⟩
  go_wp2
  exact bodyPost_ret (v := .tuple #[noInfo, .bool false]) (by simp [results, Try.results10, go_sem, noInfo]) rfl ⟨rfl, (Below.refl _ _).alloc (Nat.le_refl _) _⟩
end Go.Proofs.Ytinmdegmnepheaa
