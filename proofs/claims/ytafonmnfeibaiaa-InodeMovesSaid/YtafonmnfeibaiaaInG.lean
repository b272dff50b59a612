import Derived.Test.YtafonmnfeibaiaaInF
import Derived.Test.YtafonmnfeibaiaaInName
namespace Go.Proofs.Ytafonmnfeibaiaa
open Go.RowKit

theorem nameB_ok (s : ByteArray) : nameB s = okN (bs s) := by
  unfold nameB okN
  rw [bs_len]; rfl

/-! ### file, Put, Cut -/
set_option maxHeartbeats 400000 in
theorem file_none {w : World} {t : Nat} {S : Tab} (h : Rep w t S) (ki : Int) (hk : S ki.toNat = none) :
    Calls Try.prog 52 #[.pointer (some ⟨t, 0, none⟩), .int .i64 ki] w fun e w' => w = w' ∧ e = .returned (.tuple #[.pointer none, .int .i64 3]) := by
  have H := Lib.hid h
  have HK := Lib.hid hk
  clear h hk
  go_enter Try.func52, Try.ntmps52
  go_wp2_with fail
  refine (H.out.at_none _ HK.out).mono ?_
  rintro e w' ⟨rfl, rfl⟩
  go_wp2
  go_ret2
  exact ⟨rfl, rfl⟩
set_option maxHeartbeats 400000 in
theorem file_dir {w : World} {t : Nat} {S : Tab} (h : Rep w t S) (ki : Int) {b : Nat} {n : Nd} (hk : S ki.toNat = some (b, n)) (hkd : n.kind = 1) :
    Calls Try.prog 52 #[.pointer (some ⟨t, 0, none⟩), .int .i64 ki] w fun e w' => w = w' ∧ e = .returned (.tuple #[.pointer none, .int .i64 7]) := by
  have c1 : w.cell? ⟨b, 1, none⟩ = some (.int .i64 1) := by rw [h.c1 hk, hkd]
  clear hkd
  have H := Lib.hid h
  have HK := Lib.hid hk
  clear h hk
  go_enter Try.func52, Try.ntmps52
  go_wp2_with fail
  refine (H.out.at_some _ HK.out).mono ?_
  rintro e w' ⟨rfl, rfl⟩
  go_wp2
  go_ret2
  exact ⟨rfl, rfl⟩
set_option maxHeartbeats 400000 in
theorem file_tty {w : World} {t : Nat} {S : Tab} (h : Rep w t S) (ki : Int) {b : Nat} {n : Nd} (hk : S ki.toNat = some (b, n)) (hkd : n.kind = 2) :
    Calls Try.prog 52 #[.pointer (some ⟨t, 0, none⟩), .int .i64 ki] w fun e w' => w = w' ∧ e = .returned (.tuple #[.pointer none, .int .i64 1]) := by
  have c1 : w.cell? ⟨b, 1, none⟩ = some (.int .i64 2) := by rw [h.c1 hk, hkd]
  clear hkd
  have H := Lib.hid h
  have HK := Lib.hid hk
  clear h hk
  go_enter Try.func52, Try.ntmps52
  go_wp2_with fail
  refine (H.out.at_some _ HK.out).mono ?_
  rintro e w' ⟨rfl, rfl⟩
  go_wp2
  go_ret2
  exact ⟨rfl, rfl⟩
set_option maxHeartbeats 400000 in
theorem file_ok {w : World} {t : Nat} {S : Tab} (h : Rep w t S) (ki : Int) {b : Nat} {n : Nd} (hk : S ki.toNat = some (b, n)) (h1 : ¬ n.kind = 1) (h2 : ¬ n.kind = 2) :
    Calls Try.prog 52 #[.pointer (some ⟨t, 0, none⟩), .int .i64 ki] w fun e w' => w = w' ∧ e = .returned (.tuple #[.pointer (some ⟨b, 0, none⟩), .int .i64 0]) := by
  have c1 := h.c1 hk
  have e1 : (n.kind == 1) = false := by simpa using h1
  have e2 : (n.kind == 2) = false := by simpa using h2
  clear h1 h2
  have H := Lib.hid h
  have HK := Lib.hid hk
  clear h hk
  go_enter Try.func52, Try.ntmps52
  go_wp2_with fail
  refine (H.out.at_some _ HK.out).mono ?_
  rintro e w' ⟨rfl, rfl⟩
  go_wp2
  go_ret2
  exact ⟨rfl, rfl⟩
theorem kept_data {n : Nd} {m : IT.Nd} {l : Nat} (h : IT.Kept (kp n) m l) (a : ByteArray) (b : IT.Bytes) (hab : bs a = b) : IT.Kept (kp { n with data := a }) { m with data := b } l :=
  ⟨h.kind, h.mode, h.owner, h.group, h.tty, h.holds, hab, h.names, h.links, h.parent⟩
set_option maxHeartbeats 400000 in
theorem cut_any {w : World} {t : Nat} {S : Tab} {T : IT.Tr} (h : Tre w t S T) (ki : Int) :
    Calls Try.prog 44 #[.pointer (some ⟨t, 0, none⟩), .int .i64 ki] w fun e w' => ∃ r, e = .returned (.int .i64 r) ∧ Stp w t S (fun T' => IT.isCut T ki.toNat r T') w' := by
  cases hk : S ki.toNat with
  | none =>
    have hfile := file_none h.rep ki hk
    have HF := Lib.hid hfile
    have HP : Hid (Stp w t S (fun T' => IT.isCut T ki.toNat 3 T') w) := Lib.hid (Stp.keep h (by unfold IT.isCut; rw [(h.none_iff _).1 hk]; exact ⟨rfl, rfl⟩))
    clear h hk hfile
    go_enter Try.func44, Try.ntmps44
    go_wp2_with fail
    refine HF.out.mono ?_
    rintro e w' ⟨rfl, rfl⟩
    go_wp2
    go_ret
    exact ⟨_, rfl, HP.out⟩
  | some q =>
    obtain ⟨b, n⟩ := q
    obtain ⟨m, hT, hkp⟩ := h.get hk
    have hkd : n.kind = m.kind := hkp.kind
    by_cases h1 : m.kind = 1
    · have HP : Hid (Stp w t S (fun T' => IT.isCut T ki.toNat 7 T') w) := Lib.hid (Stp.keep h (by unfold IT.isCut; rw [hT]; dsimp only; rw [if_pos h1]; exact ⟨rfl, rfl⟩))
      have hfile := file_dir h.rep ki hk (hkd.trans h1)
      have HF := Lib.hid hfile
      clear h hk hfile hT hkp hkd h1
      go_enter Try.func44, Try.ntmps44
      go_wp2_with fail
      refine HF.out.mono ?_
      rintro e w' ⟨rfl, rfl⟩
      go_wp2
      go_ret
      exact ⟨_, rfl, HP.out⟩
    · by_cases h2 : m.kind = 2
      · have HP : Hid (Stp w t S (fun T' => IT.isCut T ki.toNat 1 T') w) := Lib.hid (Stp.keep h (by unfold IT.isCut; rw [hT]; dsimp only; rw [if_neg h1, if_pos h2]; exact ⟨rfl, rfl⟩))
        have hfile := file_tty h.rep ki hk (hkd.trans h2)
        have HF := Lib.hid hfile
        clear h hk hfile hT hkp hkd h1 h2
        go_enter Try.func44, Try.ntmps44
        go_wp2_with fail
        refine HF.out.mono ?_
        rintro e w' ⟨rfl, rfl⟩
        go_wp2
        go_ret
        exact ⟨_, rfl, HP.out⟩
      · have hk2 := (h.rep.rng _ _ hk).2
        have hmv : Mv w t S (w.setCell ⟨b, 9, none⟩ (.string ByteArray.empty)) (upd S ki.toNat (some (b, { n with data := ByteArray.empty }))) :=
          (Mv.refl h.rep).setNode hk 9 (.string ByteArray.empty) { n with data := ByteArray.empty } rfl rfl rfl rfl rfl (Nat.zero_le _)
        have HP : Hid (Stp w t S (fun T' => IT.isCut T ki.toNat 0 T') (w.setCell ⟨b, 9, none⟩ (.string ByteArray.empty))) := Lib.hid ⟨_, IT.upd T ki.toNat (some { m with data := [] }), hmv, by
          rw [kpOf_upd]; exact h.ties.same hT hk2 rfl (kept_data hkp _ _ rfl), by unfold IT.isCut; rw [hT]; dsimp only; rw [if_neg h1, if_neg h2]; exact ⟨rfl, rfl⟩⟩
        have c9 := h.rep.c9 hk
        have f9 := h.rep.frozenN hk 9
        have hfile := file_ok h.rep ki hk (by rw [hkd]; exact h1) (by rw [hkd]; exact h2)
        have HF := Lib.hid hfile
        clear h hk hfile hT hkp hkd h1 h2 hmv hk2
        go_enter Try.func44, Try.ntmps44
        go_wp2_with fail
        refine HF.out.mono ?_
        rintro e w' ⟨rfl, rfl⟩
        go_wp2
        go_ret
        exact ⟨_, rfl, HP.out⟩
/-- What a file holds when s has been put at a place. -/
def putAt (d : ByteArray) (a : Nat) (s : ByteArray) : ByteArray := d.extract 0 a ++ s ++ d.extract (min d.size (a + s.size)) d.size
theorem putAt_le (d : ByteArray) (a : Nat) (s : ByteArray) (hd : d.size ≤ 4096) (ha : a ≤ d.size) (hs : s.size + a ≤ 4096) : (putAt d a s).size ≤ 4096 := by
  simp only [putAt, ByteArray.size_append, ByteArray.size_extract]; omega
theorem putAt_bs (d : ByteArray) (a : Nat) (s : ByteArray) : bs (putAt d a s) = (bs d).take a ++ bs s ++ (bs d).drop (a + (bs s).length) := by
  have hs := bs_len s
  have hd := bs_len d
  unfold bs at hs hd
  unfold putAt bs
  simp only [ByteArray.data_append, ByteArray.data_extract, Array.toList_append, Array.toList_extract, List.extract_eq_take_drop]
  rw [Nat.sub_zero, List.drop_zero, hs]
  congr 1
  by_cases h : a + s.size ≤ d.size
  · rw [Nat.min_eq_right h]
    apply List.take_of_length_le
    rw [List.length_drop, hd]; omega
  · rw [Nat.min_eq_left (by omega), Nat.sub_self, List.take_zero]
    exact (List.drop_of_length_le (by rw [hd]; omega)).symm
set_option maxHeartbeats 400000 in
theorem put_file {w : World} {t b : Nat} {S : Tab} {n : Nd} (h : Rep w t S) (ki : Int) (hk : S ki.toNat = some (b, n)) (hkd : ¬ n.kind = 1 ∧ ¬ n.kind = 2) (a : Nat) (s : ByteArray) (ha : a ≤ n.data.size) (hs : s.size + a ≤ 4096) :
    Calls Try.prog 23 #[.pointer (some ⟨t, 0, none⟩), .int .i64 ki, .int .i64 a, .string s] w fun e w' => e = .returned (.int .i64 0) ∧ Mv w t S w' (upd S ki.toNat (some (b, { n with data := putAt n.data a s }))) := by
  have c9 := h.c9 hk
  have f9 := h.frozenN hk 9
  have hd := (h.small _ b n hk).1
  have hd1 : (n.data.size : Int) ≤ 4096 := by omega
  have ha1 : (a : Int) ≤ n.data.size := by omega
  have ha2 : (a : Int) ≤ 4096 := by omega
  have hs1 : (s.size : Int) + a ≤ 4096 := by omega
  have hfile := file_ok h ki hk hkd.1 hkd.2
  have H := Lib.hid h
  have HK := Lib.hid hk
  have HF := Lib.hid hfile
  clear h hk hkd hfile
  go_enter Try.func23, Try.ntmps23
  go_wp2_with fail
  refine HF.out.mono ?_
  rintro e w' ⟨rfl, rfl⟩
  go_wp2
  go_region
  go_wp2
  go_ret
  have e : (min (n.data.size : Int) ((a : Int) + s.size)).toNat = min n.data.size (a + s.size) := by omega
  rw [e]
  exact ⟨rfl, ((Mv.refl H.out).setNode HK.out 9 (.string (putAt n.data a s)) { n with data := putAt n.data a s } rfl rfl rfl rfl rfl (putAt_le _ _ _ hd ha hs)).drew⟩
set_option maxHeartbeats 400000 in
theorem put_bad {w : World} {t b : Nat} {S : Tab} {n : Nd} (h : Rep w t S) (ki : Int) (hk : S ki.toNat = some (b, n)) (hkd : ¬ n.kind = 1 ∧ ¬ n.kind = 2) (a : Int) (s : ByteArray) (ha : a < 0 ∨ (n.data.size : Int) < a) :
    Calls Try.prog 23 #[.pointer (some ⟨t, 0, none⟩), .int .i64 ki, .int .i64 a, .string s] w fun e w' => e = .returned (.int .i64 1) ∧ w = w' := by
  have c9 := h.c9 hk
  have hfile := file_ok h ki hk hkd.1 hkd.2
  have HF := Lib.hid hfile
  clear h hk hkd hfile
  by_cases h1 : a < 0
  · clear ha
    go_enter Try.func23, Try.ntmps23
    go_wp2_with fail
    refine HF.out.mono ?_
    rintro e w' ⟨rfl, rfl⟩
    go_wp2
    go_ret
    exact ⟨rfl, rfl⟩
  · have h2 : (n.data.size : Int) < a := by omega
    clear ha
    go_enter Try.func23, Try.ntmps23
    go_wp2_with fail
    refine HF.out.mono ?_
    rintro e w' ⟨rfl, rfl⟩
    go_wp2
    go_ret
    exact ⟨rfl, rfl⟩
set_option maxHeartbeats 400000 in
theorem put_full {w : World} {t b : Nat} {S : Tab} {n : Nd} (h : Rep w t S) (ki : Int) (hk : S ki.toNat = some (b, n)) (hkd : ¬ n.kind = 1 ∧ ¬ n.kind = 2) (a : Nat) (s : ByteArray) (ha : a ≤ n.data.size) (hs : 4096 < s.size + a) :
    Calls Try.prog 23 #[.pointer (some ⟨t, 0, none⟩), .int .i64 ki, .int .i64 a, .string s] w fun e w' => e = .returned (.int .i64 9) ∧ w = w' := by
  have c9 := h.c9 hk
  have hd := (h.small _ b n hk).1
  have ha1 : (a : Int) ≤ n.data.size := by omega
  have ha2 : (a : Int) ≤ 4096 := by omega
  have hs1 : 4096 - (a : Int) < s.size := by omega
  have hfile := file_ok h ki hk hkd.1 hkd.2
  have HF := Lib.hid hfile
  clear h hk hkd hfile
  go_enter Try.func23, Try.ntmps23
  go_wp2_with fail
  refine HF.out.mono ?_
  rintro e w' ⟨rfl, rfl⟩
  go_wp2
  go_ret
  exact ⟨rfl, rfl⟩
set_option maxHeartbeats 400000 in
theorem put_no {w : World} {t : Nat} (ki a : Int) (s : ByteArray) (e0 : Int) (he : e0 = 1 ∨ e0 = 3 ∨ e0 = 7)
    (hfile : Calls Try.prog 52 #[.pointer (some ⟨t, 0, none⟩), .int .i64 ki] w fun e w' => w = w' ∧ e = .returned (.tuple #[.pointer none, .int .i64 e0])) :
    Calls Try.prog 23 #[.pointer (some ⟨t, 0, none⟩), .int .i64 ki, .int .i64 a, .string s] w fun e w' => e = .returned (.int .i64 e0) ∧ w = w' := by
  have HF := Lib.hid hfile
  clear hfile
  rcases he with rfl | rfl | rfl
  all_goals
    go_enter Try.func23, Try.ntmps23
    go_wp2_with fail
    refine HF.out.mono ?_
    rintro e w' ⟨rfl, rfl⟩
    go_wp2
    go_ret
    exact ⟨rfl, rfl⟩
theorem put_any {w : World} {t : Nat} {S : Tab} {T : IT.Tr} (h : Tre w t S T) (ki a : Int) (s : ByteArray) :
    Calls Try.prog 23 #[.pointer (some ⟨t, 0, none⟩), .int .i64 ki, .int .i64 a, .string s] w fun e w' => ∃ r, e = .returned (.int .i64 r) ∧ Stp w t S (fun T' => IT.isPut T ki.toNat a (bs s) r T') w' := by
  cases hk : S ki.toNat with
  | none =>
    have hfile := file_none h.rep ki hk
    refine (put_no ki a s 3 (.inr (.inl rfl)) hfile).mono ?_
    rintro e w' ⟨rfl, rfl⟩
    exact ⟨_, rfl, Stp.keep h (by unfold IT.isPut; rw [(h.none_iff _).1 hk]; exact ⟨rfl, rfl⟩)⟩
  | some q =>
    obtain ⟨b, n⟩ := q
    obtain ⟨m, hT, hkp⟩ := h.get hk
    have hkd : n.kind = m.kind := hkp.kind
    have hda : bs n.data = m.data := hkp.data
    have hsz : n.data.size = m.data.length := by rw [← hda, bs_len]
    have hss := bs_len s
    by_cases h1 : m.kind = 1
    · have hfile := file_dir h.rep ki hk (hkd.trans h1)
      refine (put_no ki a s 7 (.inr (.inr rfl)) hfile).mono ?_
      rintro e w' ⟨rfl, rfl⟩
      exact ⟨_, rfl, Stp.keep h (by unfold IT.isPut; rw [hT]; dsimp only; rw [if_pos h1]; exact ⟨rfl, rfl⟩)⟩
    · by_cases h2 : m.kind = 2
      · have hfile := file_tty h.rep ki hk (hkd.trans h2)
        refine (put_no ki a s 1 (.inl rfl) hfile).mono ?_
        rintro e w' ⟨rfl, rfl⟩
        exact ⟨_, rfl, Stp.keep h (by unfold IT.isPut; rw [hT]; dsimp only; rw [if_neg h1, if_pos h2]; exact ⟨rfl, rfl⟩)⟩
      · have hkd2 : ¬ n.kind = 1 ∧ ¬ n.kind = 2 := by rw [hkd]; exact ⟨h1, h2⟩
        by_cases h3 : a < 0 ∨ (n.data.size : Int) < a
        · refine (put_bad h.rep ki hk hkd2 a s h3).mono ?_
          rintro e w' ⟨rfl, rfl⟩
          refine ⟨_, rfl, Stp.keep h (by
            unfold IT.isPut; rw [hT]; dsimp only; rw [if_neg h1, if_neg h2, if_pos]
            · exact ⟨rfl, rfl⟩
            · rcases h3 with h3 | h3
              · exact .inl h3
              · exact .inr (by rw [hsz] at h3; exact h3))⟩
        · have h4 : 0 ≤ a := by omega
          obtain ⟨an, rfl⟩ := Int.eq_ofNat_of_zero_le h4
          have h5 : an ≤ n.data.size := by omega
          have n3 : ¬ ((an : Int) < 0 ∨ (an : Int) > (m.data.length : Int)) := by omega
          by_cases h6 : s.size + an ≤ 4096
          · refine (put_file h.rep ki hk hkd2 an s h5 h6).mono ?_
            rintro e w' ⟨rfl, hmv⟩
            refine ⟨0, rfl, _, IT.upd T ki.toNat (some { m with data := m.data.take an ++ bs s ++ m.data.drop (an + (bs s).length) }), hmv, ?_, ?_⟩
            · rw [kpOf_upd]
              exact h.ties.same hT (h.rep.rng _ _ hk).2 rfl (kept_data hkp _ _ (by rw [putAt_bs, hda]))
            · unfold IT.isPut; rw [hT]; dsimp only; rw [if_neg h1, if_neg h2, if_neg n3, if_neg (by omega)]
              exact ⟨rfl, rfl⟩
          · refine (put_full h.rep ki hk hkd2 an s h5 (by omega)).mono ?_
            rintro e w' ⟨rfl, rfl⟩
            refine ⟨_, rfl, Stp.keep h (by
              unfold IT.isPut; rw [hT]; dsimp only; rw [if_neg h1, if_neg h2, if_neg n3, if_pos (by omega)]
              exact ⟨rfl, rfl⟩)⟩

/-! ### Directories -/
set_option maxHeartbeats 400000 in
theorem entry_none {w : World} {t b k : Nat} {S : Tab} {n : Nd} (h : Rep w t S) (hk : S k = some (b, n)) (hkd : n.kind = 1) (s : ByteArray) (hs : look n.names s = none) :
    Calls Try.prog 50 #[.pointer (some ⟨t, 0, none⟩), .pointer (some ⟨b, 0, none⟩), .string s] w fun e w' => e = .returned (.pointer none) ∧ w = w' := by
  obtain ⟨m, hm⟩ := h.dir_mp hk hkd
  have c10 : w.cell? ⟨b, 10, none⟩ = some (.map (some m)) := by rw [h.c10 hk, hm]
  have hl := run_lookup_none Try.underlying84 Try.underlying9 (h.map k b n m hk hm) s hs (by kernel_rfl)
  clear h hk hkd hs hm
  go_enter Try.func50, Try.ntmps50
  go_wp2
  go_ret
  exact ⟨rfl, rfl⟩
set_option maxHeartbeats 400000 in
theorem entry_some {w : World} {t b k c : Nat} {S : Tab} {n m' : Nd} (h : Rep w t S) (hk : S k = some (b, n)) (hkd : n.kind = 1) (s : ByteArray) (x : Nat) (hs : look n.names s = some x) (hx : S x = some (c, m')) :
    Calls Try.prog 50 #[.pointer (some ⟨t, 0, none⟩), .pointer (some ⟨b, 0, none⟩), .string s] w fun e w' => e = .returned (.pointer (some ⟨c, 0, none⟩)) ∧ w = w' := by
  obtain ⟨m, hm⟩ := h.dir_mp hk hkd
  have c10 : w.cell? ⟨b, 10, none⟩ = some (.map (some m)) := by rw [h.c10 hk, hm]
  have hl := run_lookup_some Try.underlying84 Try.underlying9 (h.map k b n m hk hm) s x hs
  have hr := h.rng _ _ hx
  have hx1 : 1 ≤ (x : Int) := by omega
  have hx2 : (x : Int) ≤ 200 := by omega
  have ct : w.cell? ⟨t, x, none⟩ = some (.pointer (some ⟨c, 0, none⟩)) := by rw [h.cellT _ (by omega), hx]; rfl
  clear h hk hkd hs hm hx hr
  go_enter Try.func50, Try.ntmps50
  go_wp2
  go_ret
  exact ⟨rfl, rfl⟩
set_option maxHeartbeats 400000 in
theorem pair_ok {w : World} {t b c : Nat} {S : Tab} {n m : Nd} (h : Rep w t S) (x y : Int) (hx : S x.toNat = some (b, n)) (hy : S y.toNat = some (c, m)) :
    Calls Try.prog 49 #[.pointer (some ⟨t, 0, none⟩), .int .i64 x, .int .i64 y] w fun e w' => e = .returned (.tuple #[.pointer (some ⟨b, 0, none⟩), .pointer (some ⟨c, 0, none⟩), .int .i64 0]) ∧ w = w' := by
  have H := Lib.hid h
  have HX := Lib.hid hx
  have HY := Lib.hid hy
  clear h hx hy
  go_enter Try.func49, Try.ntmps49
  go_wp2_with fail
  refine (H.out.at_some _ HX.out).mono ?_
  rintro e w' ⟨rfl, rfl⟩
  go_wp2_with fail
  refine (H.out.at_some _ HY.out).mono ?_
  rintro e w' ⟨rfl, rfl⟩
  go_wp2
  go_ret3
  exact ⟨rfl, rfl⟩
set_option maxHeartbeats 400000 in
theorem pair_none {w : World} {t : Nat} {S : Tab} (h : Rep w t S) (x y : Int) (hn : S x.toNat = none ∨ S y.toNat = none) :
    Calls Try.prog 49 #[.pointer (some ⟨t, 0, none⟩), .int .i64 x, .int .i64 y] w fun e w' => e = .returned (.tuple #[.pointer none, .pointer none, .int .i64 3]) ∧ w = w' := by
  have H := Lib.hid h
  clear h
  cases hx : S x.toNat with
  | none =>
    have HX := Lib.hid hx
    clear hx hn
    cases hy : S y.toNat with
    | none =>
      have HY := Lib.hid hy
      clear hy
      go_enter Try.func49, Try.ntmps49
      go_wp2_with fail
      refine (H.out.at_none _ HX.out).mono ?_
      rintro e w' ⟨rfl, rfl⟩
      go_wp2_with fail
      refine (H.out.at_none _ HY.out).mono ?_
      rintro e w' ⟨rfl, rfl⟩
      go_wp2
      go_ret3
      exact ⟨rfl, rfl⟩
    | some q =>
      obtain ⟨c, m⟩ := q
      have HY := Lib.hid hy
      clear hy
      go_enter Try.func49, Try.ntmps49
      go_wp2_with fail
      refine (H.out.at_none _ HX.out).mono ?_
      rintro e w' ⟨rfl, rfl⟩
      go_wp2_with fail
      refine (H.out.at_some _ HY.out).mono ?_
      rintro e w' ⟨rfl, rfl⟩
      go_wp2
      go_ret3
      exact ⟨rfl, rfl⟩
  | some q =>
    obtain ⟨b, n⟩ := q
    have hy : S y.toNat = none := by rcases hn with h | h; rw [hx] at h; cases h; exact h
    have HX := Lib.hid hx
    have HY := Lib.hid hy
    clear hx hy hn
    go_enter Try.func49, Try.ntmps49
    go_wp2_with fail
    refine (H.out.at_some _ HX.out).mono ?_
    rintro e w' ⟨rfl, rfl⟩
    go_wp2_with fail
    refine (H.out.at_none _ HY.out).mono ?_
    rintro e w' ⟨rfl, rfl⟩
    go_wp2
    go_ret3
    exact ⟨rfl, rfl⟩
end Go.Proofs.Ytafonmnfeibaiaa
