import Derived.Test.YtinmdegmnepheaaWalkF
namespace Go.Proofs.Ytinmdegmnepheaa
open Go.RowKit

set_option maxHeartbeats 400000 in
theorem file_ok {w : World} {t b : Nat} {S : Tab} {n : Nd} (h : Rep w t S) (ki : Int) (hk : S ki.toNat = some (b, n)) (hkd : n.kind = 0) :
    Calls Try.prog 23 #[.pointer (some ⟨t, 0, none⟩), .int .i64 ki] w fun e w' => e = .returned (.tuple #[.pointer (some ⟨b, 0, none⟩), .int .i64 0]) ∧ w = w' := by
  have c1 : w.cell? ⟨b, 1, none⟩ = some (.int .i64 0) := by rw [h.c1 hk, hkd]
  have H := Lib.hid h
  have HK := Lib.hid hk
  clear h hk hkd
  go_enter Try.func23, Try.ntmps23
  go_wp2_with fail
  refine (H.out.at_some _ HK.out).mono ?_
  rintro e w' ⟨rfl, rfl⟩
  go_wp2
  go_ret2
  exact ⟨rfl, rfl⟩

set_option maxHeartbeats 400000 in
theorem cut_ok {w : World} {t b : Nat} {S : Tab} {n : Nd} (h : Rep w t S) (ki : Int) (hk : S ki.toNat = some (b, n)) (hkd : n.kind = 0) :
    Calls Try.prog 13 #[.pointer (some ⟨t, 0, none⟩), .int .i64 ki] w fun e w' => e = .returned (.int .i64 0) ∧ Mv w t S w' (upd S ki.toNat (some (b, { n with data := ByteArray.empty }))) := by
  have c9 := h.c9 hk
  have f9 := h.frozenN hk 9
  have H := Lib.hid h
  have HK := Lib.hid hk
  have HD := Lib.hid hkd
  clear h hk hkd
  go_enter Try.func13, Try.ntmps13
  go_wp2_with fail
  refine (file_ok H.out _ HK.out HD.out).mono ?_
  rintro e w' ⟨rfl, rfl⟩
  go_wp2
  go_ret
  exact ⟨rfl, (Mv.refl H.out).setNode HK.out 9 (.string ByteArray.empty) { n with data := ByteArray.empty } rfl rfl rfl rfl rfl (Nat.zero_le _)⟩

/-- What a file holds when s has been put at a place. -/
def putAt (d : ByteArray) (a : Nat) (s : ByteArray) : ByteArray := d.extract 0 a ++ s ++ d.extract (min d.size (a + s.size)) d.size

theorem putAt_le (d : ByteArray) (a : Nat) (s : ByteArray) (hd : d.size ≤ 4096) (ha : a ≤ d.size) (hs : s.size + a ≤ 4096) : (putAt d a s).size ≤ 4096 := by
  simp only [putAt, ByteArray.size_append, ByteArray.size_extract]; omega
theorem Rep.dir_mp {w : World} {t b k : Nat} {S : Tab} {n : Nd} (h : Rep w t S) (hk : S k = some (b, n)) (hkd : n.kind = 1) : ∃ m, n.mp = some m := by
  have := h.dir k b n hk
  rw [hkd] at this
  exact Option.isSome_iff_exists.1 (by simpa using this)

set_option maxHeartbeats 400000 in
theorem put_ok {w : World} {t b : Nat} {S : Tab} {n : Nd} (h : Rep w t S) (ki : Int) (hk : S ki.toNat = some (b, n)) (hkd : n.kind = 0) (a : Nat) (s : ByteArray) (ha : a ≤ n.data.size) (hs : s.size + a ≤ 4096) :
    Calls Try.prog 11 #[.pointer (some ⟨t, 0, none⟩), .int .i64 ki, .int .i64 a, .string s] w fun e w' => e = .returned (.int .i64 0) ∧ Mv w t S w' (upd S ki.toNat (some (b, { n with data := putAt n.data a s }))) := by
  have c9 := h.c9 hk
  have f9 := h.frozenN hk 9
  have hd := (h.small _ b n hk).1
  have hd1 : (n.data.size : Int) ≤ 4096 := by omega
  have ha1 : (a : Int) ≤ n.data.size := by omega
  have ha2 : (a : Int) ≤ 4096 := by omega
  have hs1 : (s.size : Int) + a ≤ 4096 := by omega
  have H := Lib.hid h
  have HK := Lib.hid hk
  have HD := Lib.hid hkd
  clear h hk hkd
  go_enter Try.func11, Try.ntmps11
  go_wp2_with fail
  refine (file_ok H.out _ HK.out HD.out).mono ?_
  rintro e w' ⟨rfl, rfl⟩
  go_wp2
  go_region
  go_wp2
  go_ret
  have e : (min (n.data.size : Int) ((a : Int) + s.size)).toNat = min n.data.size (a + s.size) := by omega
  rw [e]
  exact ⟨rfl, ((Mv.refl H.out).setNode HK.out 9 (.string (putAt n.data a s)) { n with data := putAt n.data a s } rfl rfl rfl rfl rfl (putAt_le _ _ _ hd ha hs)).drew⟩

set_option maxHeartbeats 400000 in
theorem put_bad {w : World} {t b : Nat} {S : Tab} {n : Nd} (h : Rep w t S) (ki : Int) (hk : S ki.toNat = some (b, n)) (hkd : n.kind = 0) (a : Int) (s : ByteArray) (ha : (n.data.size : Int) < a) :
    Calls Try.prog 11 #[.pointer (some ⟨t, 0, none⟩), .int .i64 ki, .int .i64 a, .string s] w fun e w' => e = .returned (.int .i64 1) ∧ w = w' := by
  have c9 := h.c9 hk
  have ha1 : 0 ≤ a := by omega
  have H := Lib.hid h
  have HK := Lib.hid hk
  have HD := Lib.hid hkd
  clear h hk hkd
  go_enter Try.func11, Try.ntmps11
  go_wp2_with fail
  refine (file_ok H.out _ HK.out HD.out).mono ?_
  rintro e w' ⟨rfl, rfl⟩
  go_wp2
  go_ret
  exact ⟨rfl, rfl⟩

set_option maxHeartbeats 400000 in
theorem put_full {w : World} {t b : Nat} {S : Tab} {n : Nd} (h : Rep w t S) (ki : Int) (hk : S ki.toNat = some (b, n)) (hkd : n.kind = 0) (a : Nat) (s : ByteArray) (ha : a ≤ n.data.size) (hs : 4096 < s.size + a) :
    Calls Try.prog 11 #[.pointer (some ⟨t, 0, none⟩), .int .i64 ki, .int .i64 a, .string s] w fun e w' => e = .returned (.int .i64 9) ∧ w = w' := by
  have c9 := h.c9 hk
  have hd := (h.small _ b n hk).1
  have ha1 : (a : Int) ≤ n.data.size := by omega
  have ha2 : (a : Int) ≤ 4096 := by omega
  have hs1 : 4096 - (a : Int) < s.size := by omega
  have H := Lib.hid h
  have HK := Lib.hid hk
  have HD := Lib.hid hkd
  clear h hk hkd
  go_enter Try.func11, Try.ntmps11
  go_wp2_with fail
  refine (file_ok H.out _ HK.out HD.out).mono ?_
  rintro e w' ⟨rfl, rfl⟩
  go_wp2
  go_ret
  exact ⟨rfl, rfl⟩

/-! ### Directories -/
set_option maxHeartbeats 400000 in
theorem entry_none {w : World} {t b k : Nat} {S : Tab} {n : Nd} (h : Rep w t S) (hk : S k = some (b, n)) (hkd : n.kind = 1) (s : ByteArray) (hs : look n.names s = none) :
    Calls Try.prog 26 #[.pointer (some ⟨t, 0, none⟩), .pointer (some ⟨b, 0, none⟩), .string s] w fun e w' => e = .returned (.pointer none) ∧ w = w' := by
  obtain ⟨m, hm⟩ := h.dir_mp hk hkd
  have c10 : w.cell? ⟨b, 10, none⟩ = some (.map (some m)) := by rw [h.c10 hk, hm]
  have hl := run_lookup_none Try.underlying53 Try.underlying9 (h.map k b n m hk hm) s hs (by kernel_rfl)
  clear h hk hkd hs hm
  go_enter Try.func26, Try.ntmps26
  go_wp2
  go_ret
  exact ⟨rfl, rfl⟩

set_option maxHeartbeats 400000 in
theorem entry_some {w : World} {t b k c : Nat} {S : Tab} {n m' : Nd} (h : Rep w t S) (hk : S k = some (b, n)) (hkd : n.kind = 1) (s : ByteArray) (x : Int) (hs : look n.names s = some x) (hx : S x.toNat = some (c, m')) :
    Calls Try.prog 26 #[.pointer (some ⟨t, 0, none⟩), .pointer (some ⟨b, 0, none⟩), .string s] w fun e w' => e = .returned (.pointer (some ⟨c, 0, none⟩)) ∧ w = w' := by
  obtain ⟨m, hm⟩ := h.dir_mp hk hkd
  have c10 : w.cell? ⟨b, 10, none⟩ = some (.map (some m)) := by rw [h.c10 hk, hm]
  have hl := run_lookup_some Try.underlying53 Try.underlying9 (h.map k b n m hk hm) s x hs
  have hr := h.rng _ _ hx
  have hx1 : 1 ≤ x := by omega
  have hx2 : x ≤ 200 := by omega
  have ct : w.cell? ⟨t, x.toNat, none⟩ = some (.pointer (some ⟨c, 0, none⟩)) := by rw [h.cellT _ (by omega), hx]; rfl
  clear h hk hkd hs hm hx hr
  go_enter Try.func26, Try.ntmps26
  go_wp2
  go_ret
  exact ⟨rfl, rfl⟩

set_option maxHeartbeats 400000 in
theorem pair_ok {w : World} {t b c : Nat} {S : Tab} {n m : Nd} (h : Rep w t S) (x y : Int) (hx : S x.toNat = some (b, n)) (hy : S y.toNat = some (c, m)) :
    Calls Try.prog 24 #[.pointer (some ⟨t, 0, none⟩), .int .i64 x, .int .i64 y] w fun e w' => e = .returned (.tuple #[.pointer (some ⟨b, 0, none⟩), .pointer (some ⟨c, 0, none⟩), .int .i64 0]) ∧ w = w' := by
  have H := Lib.hid h
  have HX := Lib.hid hx
  have HY := Lib.hid hy
  clear h hx hy
  go_enter Try.func24, Try.ntmps24
  go_wp2_with fail
  refine (H.out.at_some _ HX.out).mono ?_
  rintro e w' ⟨rfl, rfl⟩
  go_wp2_with fail
  refine (H.out.at_some _ HY.out).mono ?_
  rintro e w' ⟨rfl, rfl⟩
  go_wp2
  go_ret3
  exact ⟨rfl, rfl⟩

set_option maxHeartbeats 400000 in
theorem look_up {w : World} {t b : Nat} {S : Tab} {n : Nd} (h : Rep w t S) (ki : Int) (hk : S ki.toNat = some (b, n)) (hkd : n.kind = 1) :
    Calls Try.prog 17 #[.pointer (some ⟨t, 0, none⟩), .int .i64 ki, .string ⟨#[46, 46]⟩] w fun e w' => e = .returned (.tuple #[.int .i64 n.parent, .bool true]) ∧ w = w' := by
  have c1 : w.cell? ⟨b, 1, none⟩ = some (.int .i64 1) := by rw [h.c1 hk, hkd]
  have c11 := h.c11 hk
  have H := Lib.hid h
  have HK := Lib.hid hk
  clear h hk hkd
  go_enter Try.func17, Try.ntmps17
  go_wp2_with fail
  refine (H.out.at_some _ HK.out).mono ?_
  rintro e w' ⟨rfl, rfl⟩
  go_wp2
  go_ret2
  exact ⟨rfl, rfl⟩
end Go.Proofs.Ytinmdegmnepheaa
