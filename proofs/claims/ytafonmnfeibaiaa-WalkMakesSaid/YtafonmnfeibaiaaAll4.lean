/- Part 5 of the proof: contracts of functions that the statement reaches, and plain lemmas. -/
import Derived.Test.YtafonmnfeibaiaaAll3
import Derived.Deep.Cut
namespace Go.Proofs.Ytafonmnfeibaiaa
open Go.RowKit

/-! ### walk: Link -/
def isLink (T : IT.Tr) (c : Cr) (cwd : Int) (s ar : IT.Bytes) (r : Int) (T' : IT.Tr) : Prop :=
  if (findT T c cwd s).2 ≠ 0 then r = (findT T c cwd s).2 ∧ T' = T
  else ∃ q, T (findT T c cwd s).1 = some q ∧ if q.kind = 1 then r = 7 ∧ T' = T
    else match entryT T c cwd ar with
      | .error e => r = e ∧ T' = T
      | .ok x => if x.to.isSome then r = 5 ∧ T' = T
        else if x.must = true then r = 6 ∧ T' = T
        else ∃ m, T x.dir = some m ∧ if mayN m c 2 = false then r = 4 ∧ T' = T
          else IT.isEnter okN T x.dir x.name (findT T c cwd s).1 r T'
set_option maxRecDepth 100000 in
set_option maxHeartbeats 8000000 in
theorem wlink_find {w : World} {t : Nat} {S : Tab} {T : IT.Tr} (h : Tre w t S T) (cwd : Int) (c : Cr) (s ar : ByteArray) {k0 : Nat} {r0 : Int} (hg : findT T c cwd (bs s) = (k0, r0)) (hz : r0 ≠ 0) :
    Calls Try.prog 17 #[.pointer (some ⟨t, 0, none⟩), .int .i64 cwd, cred c, .string s, .string ar] w fun e w' => ∃ r, e = .returned (.int .i64 r) ∧ Stp w t S (fun T' => isLink T c cwd (bs s) (bs ar) r T') w' := by
  obtain ⟨f0, f1, f2, f3, f4, f5, f6, f7, _, _, hF⟩ := wfind_ints h cwd c s hg
  have H := Lib.hid h
  have HG := Lib.hid hg
  have HF := Lib.hid hF
  have hz1 : (r0 != 0) = true := by simpa using hz
  have HNZ := Lib.hid hz
  clear h hg hF hz
  unfold cred
  unfold ask at HF
  go_enter Try.func17, Try.ntmps17
  go_wp2_with fail
  refine (HF.out _ (belowA (belowA (Below.refl _ _) _) _)).mono ?_
  rintro e w2 ⟨rfl, hb⟩
  have HB := Lib.hid (two_below hb)
  clear hb HF
  go_wp2
  go_ret
  refine ⟨r0, rfl, Stp.keepB H.out (belowA HB.out _) ?_⟩
  unfold isLink
  rw [HG.out, if_pos HNZ.out]
  exact ⟨rfl, rfl⟩
set_option maxRecDepth 100000 in
set_option maxHeartbeats 8000000 in
theorem wlink_dir {w : World} {t : Nat} {S : Tab} {T : IT.Tr} (h : Tre w t S T) (cwd : Int) (c : Cr) (s ar : ByteArray) {k0 : Nat} {q : IT.Nd} (hg : findT T c cwd (bs s) = (k0, 0)) (hq : T k0 = some q) (hk : q.kind = 1) :
    Calls Try.prog 17 #[.pointer (some ⟨t, 0, none⟩), .int .i64 cwd, cred c, .string s, .string ar] w fun e w' => ∃ r, e = .returned (.int .i64 r) ∧ Stp w t S (fun T' => isLink T c cwd (bs s) (bs ar) r T') w' := by
  obtain ⟨f0, f1, f2, f3, f4, f5, f6, f7, h0, _, hF⟩ := wfind_ints h cwd c s hg
  obtain ⟨q2, hq2, hd⟩ := h0 rfl
  obtain rfl : q = q2 := Option.some.inj (hq.symm.trans hq2)
  have H := Lib.hid h
  have HG := Lib.hid hg
  have HF := Lib.hid hF
  have HQ := Lib.hid hq
  have HK := Lib.hid hk
  obtain rfl : f1 = 1 := (infC_inj hd).2.1.symm.trans hk
  clear h hg hF hq hq2 hk h0 hd
  unfold cred
  unfold ask at HF
  go_enter Try.func17, Try.ntmps17
  go_wp2_with fail
  refine (HF.out _ (belowA (belowA (Below.refl _ _) _) _)).mono ?_
  rintro e w2 ⟨rfl, hb⟩
  have HB := Lib.hid (two_below hb)
  clear hb HF
  go_wp2
  go_ret
  refine ⟨7, rfl, Stp.keepB H.out (belowA HB.out _) ?_⟩
  unfold isLink
  rw [HG.out, if_neg (fun hh => hh rfl)]
  refine ⟨q, HQ.out, ?_⟩
  rw [if_pos HK.out]
  exact ⟨rfl, rfl⟩
set_option maxRecDepth 100000 in
set_option maxHeartbeats 8000000 in
theorem wlink_err {w : World} {t : Nat} {S : Tab} {T : IT.Tr} (h : Tre w t S T) (cwd : Int) (c : Cr) (s ar : ByteArray) {k0 : Nat} {q : IT.Nd} (hg : findT T c cwd (bs s) = (k0, 0)) (hq : T k0 = some q) (hk : q.kind ≠ 1) {r0 : Int} (he : entryT T c cwd (bs ar) = .error r0) :
    Calls Try.prog 17 #[.pointer (some ⟨t, 0, none⟩), .int .i64 cwd, cred c, .string s, .string ar] w fun e w' => ∃ r, e = .returned (.int .i64 r) ∧ Stp w t S (fun T' => isLink T c cwd (bs s) (bs ar) r T') w' := by
  obtain ⟨f0, f1, f2, f3, f4, f5, f6, f7, h0, _, hF⟩ := wfind_ints h cwd c s hg
  obtain ⟨q2, hq2, hfd⟩ := h0 rfl
  obtain rfl : q = q2 := Option.some.inj (hq.symm.trans hq2)
  have H := Lib.hid h
  have HG := Lib.hid hg
  have HF := Lib.hid hF
  have HQ := Lib.hid hq
  have HK := Lib.hid hk
  have HFI := Lib.hid (infC_inj hfd)
  have hf1 : (f1 == 1) = false := by have := HFI.out.2.1; rw [this] at hk; simpa using hk
  have HE := Lib.hid he
  have hz1 : (r0 != 0) = true := by simpa using entry_ne he
  obtain ⟨C, hC⟩ : ∃ C, C = zeroE := ⟨_, rfl⟩
  have HC := Lib.hid (wentry_bad h cwd c ar he)
  rw [← hC] at HC
  have HCS : Hid (C.size = 19) := Lib.hid (by rw [hC]; rfl)
  have HC1 : Hid (C.all (·.oneCell') = true) := Lib.hid (by rw [hC]; exact zeroE_one)
  have HCX9 : Hid (C[9]? = some (.bool false)) := Lib.hid (by rw [hC]; rfl)
  have HCX18 : Hid (C[18]? = some (.bool false)) := Lib.hid (by rw [hC]; rfl)
  clear h hg hF hq hq2 hk h0 hfd he hC
  unfold cred
  unfold ask at HF HC
  go_enter Try.func17, Try.ntmps17
  go_wp2_with fail
  refine (HF.out _ (belowA (belowA (Below.refl _ _) _) _)).mono ?_
  rintro e w2 ⟨rfl, hb⟩
  have HB := Lib.hid (two_below hb)
  rw [alloc_size, alloc_size] at hb
  obtain ⟨_, b1, hlt, _⟩ := two_blocks hb
  have hlt2 : w.heap.size + 1 < w2.heap.size := hlt
  have a0 : w2.cell? ⟨w.heap.size + 1, 0, none⟩ = some (.pointer (some ⟨t, 0, none⟩)) := cell_of b1 0
  have a1 : w2.cell? ⟨w.heap.size + 1, 1, none⟩ = some (.int .i64 cwd) := cell_of b1 1
  have a2 : w2.cell? ⟨w.heap.size + 1, 2, none⟩ = some (.int .i64 c.real) := cell_of b1 2
  have a3 : w2.cell? ⟨w.heap.size + 1, 3, none⟩ = some (.int .i64 c.eff) := cell_of b1 3
  have a4 : w2.cell? ⟨w.heap.size + 1, 4, none⟩ = some (.int .i64 c.saved) := cell_of b1 4
  have a5 : w2.cell? ⟨w.heap.size + 1, 5, none⟩ = some (.int .i64 c.group) := cell_of b1 5
  have a6 : w2.cell? ⟨w.heap.size + 1, 6, none⟩ = some (.int .i64 c.eg) := cell_of b1 6
  have HB1 := Lib.hid b1
  clear hb hlt b1 HF
  go_wp2_with fail
  refine (HC.out _ (belowA HB.out _)).mono ?_
  rintro e w3 ⟨rfl, hb3⟩
  have HB3 : Hid (Below w.heap.size w w3) := Lib.hid ((belowA HB.out _).trans (hb3.mono (belowA HB.out _).size))
  have hBb := (hb3.block (w.heap.size + 1) (by rw [alloc_size]; omega)).trans ((alloc_heap_old _ _ hlt2).trans HB1.out)
  have hFb := (hb3.block w2.heap.size (by rw [alloc_size]; omega)).trans (alloc_heap w2 _)
  have hl3 : w2.heap.size < w3.heap.size := by have := hb3.size; rw [alloc_size] at this; omega
  have hl4 : w.heap.size + 1 < w3.heap.size := by omega
  clear hb3 HC a0 a1 a2 a3 a4 a5 a6
  obtain ⟨s1, s2, s3⟩ := stored_whole (w3 := w3) (Z := #[.int .i64 0, .int .i64 0, .int .i64 0, .int .i64 0, .int .i64 0, .int .i64 0, .int .i64 0, .int .i64 0, .string ⟨#[]⟩, .bool false, .int .i64 0, .int .i64 0, .int .i64 0, .int .i64 0, .int .i64 0, .int .i64 0, .int .i64 0, .int .i64 0, .bool false]) (C := C) (TY := 77) HCS.out
  have hT : (w3.alloc (.cells #[.int .i64 0, .int .i64 0, .int .i64 0, .int .i64 0, .int .i64 0, .int .i64 0, .int .i64 0, .int .i64 0, .string ⟨#[]⟩, .bool false, .int .i64 0, .int .i64 0, .int .i64 0, .int .i64 0, .int .i64 0, .int .i64 0, .int .i64 0, .int .i64 0, .bool false] 77)).there w3.heap.size 0 C.size := by rw [HCS.out]; exact there_of (alloc_heap w3 _)
  have hI : (Try.prog.info? 77).map (·.size) = some C.size := by rw [HCS.out]; rfl
  have h1C := HC1.out
  have x9 : (World.setCells (w3.alloc (.cells #[.int .i64 0, .int .i64 0, .int .i64 0, .int .i64 0, .int .i64 0, .int .i64 0, .int .i64 0, .int .i64 0, .string ⟨#[]⟩, .bool false, .int .i64 0, .int .i64 0, .int .i64 0, .int .i64 0, .int .i64 0, .int .i64 0, .int .i64 0, .int .i64 0, .bool false] 77)) w3.heap.size 0 C.toList).cell? ⟨w3.heap.size, 9, none⟩ = some (.bool false) := (cell_of s1 9).trans HCX9.out
  have x18 : (World.setCells (w3.alloc (.cells #[.int .i64 0, .int .i64 0, .int .i64 0, .int .i64 0, .int .i64 0, .int .i64 0, .int .i64 0, .int .i64 0, .string ⟨#[]⟩, .bool false, .int .i64 0, .int .i64 0, .int .i64 0, .int .i64 0, .int .i64 0, .int .i64 0, .int .i64 0, .int .i64 0, .bool false] 77)) w3.heap.size 0 C.toList).cell? ⟨w3.heap.size, 18, none⟩ = some (.bool false) := (cell_of s1 18).trans HCX18.out
  clear hBb hFb
  go_wp2_with (refine wpList_store_mid rfl 77 _ _ rfl w3.heap.size 0 C rfl rfl hT hI h1C ?_; generalize World.setCells (w3.alloc (.cells #[.int .i64 0, .int .i64 0, .int .i64 0, .int .i64 0, .int .i64 0, .int .i64 0, .int .i64 0, .int .i64 0, .string ⟨#[]⟩, .bool false, .int .i64 0, .int .i64 0, .int .i64 0, .int .i64 0, .int .i64 0, .int .i64 0, .int .i64 0, .int .i64 0, .bool false] 77)) w3.heap.size 0 C.toList = W5 at s1 s2 s3 x9 x18 ⊢)
  go_ret
  refine ⟨r0, rfl, Stp.keepB H.out (HB3.out.trans (s2.mono HB3.out.size)) ?_⟩
  unfold isLink
  rw [HG.out, if_neg (fun hh => hh rfl)]
  refine ⟨q, HQ.out, ?_⟩
  rw [if_neg HK.out, HE.out]
  exact ⟨rfl, rfl⟩
set_option maxRecDepth 100000 in
set_option maxHeartbeats 8000000 in
theorem wlink_is {w : World} {t : Nat} {S : Tab} {T : IT.Tr} (h : Tre w t S T) (cwd : Int) (c : Cr) (s ar : ByteArray) {k0 : Nat} {q : IT.Nd} (hg : findT T c cwd (bs s) = (k0, 0)) (hq : T k0 = some q) (hk : q.kind ≠ 1) {k j : Nat} {nm : IT.Bytes} {must : Bool} {m q3 : IT.Nd} (he : entryT T c cwd (bs ar) = .ok ⟨k, nm, must, some j⟩) (hm : T k = some m) (hq3 : T j = some q3) :
    Calls Try.prog 17 #[.pointer (some ⟨t, 0, none⟩), .int .i64 cwd, cred c, .string s, .string ar] w fun e w' => ∃ r, e = .returned (.int .i64 r) ∧ Stp w t S (fun T' => isLink T c cwd (bs s) (bs ar) r T') w' := by
  obtain ⟨f0, f1, f2, f3, f4, f5, f6, f7, h0, _, hF⟩ := wfind_ints h cwd c s hg
  obtain ⟨q2, hq2, hfd⟩ := h0 rfl
  obtain rfl : q = q2 := Option.some.inj (hq.symm.trans hq2)
  have H := Lib.hid h
  have HG := Lib.hid hg
  have HF := Lib.hid hF
  have HQ := Lib.hid hq
  have HK := Lib.hid hk
  have HFI := Lib.hid (infC_inj hfd)
  have hf1 : (f1 == 1) = false := by have := HFI.out.2.1; rw [this] at hk; simpa using hk
  have HE := Lib.hid he
  obtain ⟨d0, d1, d2, d3, d4, d5, d6, d7, g0, g1, g2, g3, g4, g5, g6, g7, _, _, hc⟩ := wentry_some h cwd c ar he hm hq3
  obtain ⟨C, hC⟩ : ∃ C, C = entG d0 d1 d2 d3 d4 d5 d6 d7 (tx nm) must g0 g1 g2 g3 g4 g5 g6 g7 true := ⟨_, rfl⟩
  rw [← hC] at hc
  have HC := Lib.hid hc
  clear hm hq3 hc
  have HCS : Hid (C.size = 19) := Lib.hid (by rw [hC]; rfl)
  have HC1 : Hid (C.all (·.oneCell') = true) := Lib.hid (by rw [hC]; exact entG_one)
  have HCX9 : Hid (C[9]? = some (.bool must)) := Lib.hid (by rw [hC]; rfl)
  have HCX18 : Hid (C[18]? = some (.bool true)) := Lib.hid (by rw [hC]; rfl)
  clear h hg hF hq hq2 hk h0 hfd he hC
  unfold cred
  unfold ask at HF HC
  go_enter Try.func17, Try.ntmps17
  go_wp2_with fail
  refine (HF.out _ (belowA (belowA (Below.refl _ _) _) _)).mono ?_
  rintro e w2 ⟨rfl, hb⟩
  have HB := Lib.hid (two_below hb)
  rw [alloc_size, alloc_size] at hb
  obtain ⟨_, b1, hlt, _⟩ := two_blocks hb
  have hlt2 : w.heap.size + 1 < w2.heap.size := hlt
  have a0 : w2.cell? ⟨w.heap.size + 1, 0, none⟩ = some (.pointer (some ⟨t, 0, none⟩)) := cell_of b1 0
  have a1 : w2.cell? ⟨w.heap.size + 1, 1, none⟩ = some (.int .i64 cwd) := cell_of b1 1
  have a2 : w2.cell? ⟨w.heap.size + 1, 2, none⟩ = some (.int .i64 c.real) := cell_of b1 2
  have a3 : w2.cell? ⟨w.heap.size + 1, 3, none⟩ = some (.int .i64 c.eff) := cell_of b1 3
  have a4 : w2.cell? ⟨w.heap.size + 1, 4, none⟩ = some (.int .i64 c.saved) := cell_of b1 4
  have a5 : w2.cell? ⟨w.heap.size + 1, 5, none⟩ = some (.int .i64 c.group) := cell_of b1 5
  have a6 : w2.cell? ⟨w.heap.size + 1, 6, none⟩ = some (.int .i64 c.eg) := cell_of b1 6
  have HB1 := Lib.hid b1
  clear hb hlt b1 HF
  go_wp2_with fail
  refine (HC.out _ (belowA HB.out _)).mono ?_
  rintro e w3 ⟨rfl, hb3⟩
  have HB3 : Hid (Below w.heap.size w w3) := Lib.hid ((belowA HB.out _).trans (hb3.mono (belowA HB.out _).size))
  have hBb := (hb3.block (w.heap.size + 1) (by rw [alloc_size]; omega)).trans ((alloc_heap_old _ _ hlt2).trans HB1.out)
  have hFb := (hb3.block w2.heap.size (by rw [alloc_size]; omega)).trans (alloc_heap w2 _)
  have hl3 : w2.heap.size < w3.heap.size := by have := hb3.size; rw [alloc_size] at this; omega
  have hl4 : w.heap.size + 1 < w3.heap.size := by omega
  clear hb3 HC a0 a1 a2 a3 a4 a5 a6
  obtain ⟨s1, s2, s3⟩ := stored_whole (w3 := w3) (Z := #[.int .i64 0, .int .i64 0, .int .i64 0, .int .i64 0, .int .i64 0, .int .i64 0, .int .i64 0, .int .i64 0, .string ⟨#[]⟩, .bool false, .int .i64 0, .int .i64 0, .int .i64 0, .int .i64 0, .int .i64 0, .int .i64 0, .int .i64 0, .int .i64 0, .bool false]) (C := C) (TY := 77) HCS.out
  have hT : (w3.alloc (.cells #[.int .i64 0, .int .i64 0, .int .i64 0, .int .i64 0, .int .i64 0, .int .i64 0, .int .i64 0, .int .i64 0, .string ⟨#[]⟩, .bool false, .int .i64 0, .int .i64 0, .int .i64 0, .int .i64 0, .int .i64 0, .int .i64 0, .int .i64 0, .int .i64 0, .bool false] 77)).there w3.heap.size 0 C.size := by rw [HCS.out]; exact there_of (alloc_heap w3 _)
  have hI : (Try.prog.info? 77).map (·.size) = some C.size := by rw [HCS.out]; rfl
  have h1C := HC1.out
  have x9 : (World.setCells (w3.alloc (.cells #[.int .i64 0, .int .i64 0, .int .i64 0, .int .i64 0, .int .i64 0, .int .i64 0, .int .i64 0, .int .i64 0, .string ⟨#[]⟩, .bool false, .int .i64 0, .int .i64 0, .int .i64 0, .int .i64 0, .int .i64 0, .int .i64 0, .int .i64 0, .int .i64 0, .bool false] 77)) w3.heap.size 0 C.toList).cell? ⟨w3.heap.size, 9, none⟩ = some (.bool must) := (cell_of s1 9).trans HCX9.out
  have x18 : (World.setCells (w3.alloc (.cells #[.int .i64 0, .int .i64 0, .int .i64 0, .int .i64 0, .int .i64 0, .int .i64 0, .int .i64 0, .int .i64 0, .string ⟨#[]⟩, .bool false, .int .i64 0, .int .i64 0, .int .i64 0, .int .i64 0, .int .i64 0, .int .i64 0, .int .i64 0, .int .i64 0, .bool false] 77)) w3.heap.size 0 C.toList).cell? ⟨w3.heap.size, 18, none⟩ = some (.bool true) := (cell_of s1 18).trans HCX18.out
  clear hBb hFb
  go_wp2_with (refine wpList_store_mid rfl 77 _ _ rfl w3.heap.size 0 C rfl rfl hT hI h1C ?_; generalize World.setCells (w3.alloc (.cells #[.int .i64 0, .int .i64 0, .int .i64 0, .int .i64 0, .int .i64 0, .int .i64 0, .int .i64 0, .int .i64 0, .string ⟨#[]⟩, .bool false, .int .i64 0, .int .i64 0, .int .i64 0, .int .i64 0, .int .i64 0, .int .i64 0, .int .i64 0, .int .i64 0, .bool false] 77)) w3.heap.size 0 C.toList = W5 at s1 s2 s3 x9 x18 ⊢)
  go_ret
  refine ⟨5, rfl, Stp.keepB H.out (HB3.out.trans (s2.mono HB3.out.size)) ?_⟩
  unfold isLink
  rw [HG.out, if_neg (fun hh => hh rfl)]
  refine ⟨q, HQ.out, ?_⟩
  rw [if_neg HK.out, HE.out]
  exact ⟨rfl, rfl⟩
set_option maxRecDepth 100000 in
set_option maxHeartbeats 8000000 in
theorem wlink_must {w : World} {t : Nat} {S : Tab} {T : IT.Tr} (h : Tre w t S T) (cwd : Int) (c : Cr) (s ar : ByteArray) {k0 : Nat} {q : IT.Nd} (hg : findT T c cwd (bs s) = (k0, 0)) (hq : T k0 = some q) (hk : q.kind ≠ 1) {k : Nat} {nm : IT.Bytes} {m : IT.Nd} (he : entryT T c cwd (bs ar) = .ok ⟨k, nm, true, none⟩) (hm : T k = some m) :
    Calls Try.prog 17 #[.pointer (some ⟨t, 0, none⟩), .int .i64 cwd, cred c, .string s, .string ar] w fun e w' => ∃ r, e = .returned (.int .i64 r) ∧ Stp w t S (fun T' => isLink T c cwd (bs s) (bs ar) r T') w' := by
  obtain ⟨f0, f1, f2, f3, f4, f5, f6, f7, h0, _, hF⟩ := wfind_ints h cwd c s hg
  obtain ⟨q2, hq2, hfd⟩ := h0 rfl
  obtain rfl : q = q2 := Option.some.inj (hq.symm.trans hq2)
  have H := Lib.hid h
  have HG := Lib.hid hg
  have HF := Lib.hid hF
  have HQ := Lib.hid hq
  have HK := Lib.hid hk
  have HFI := Lib.hid (infC_inj hfd)
  have hf1 : (f1 == 1) = false := by have := HFI.out.2.1; rw [this] at hk; simpa using hk
  have HE := Lib.hid he
  obtain ⟨d0, d1, d2, d3, d4, d5, d6, d7, hd, hc⟩ := wentry_none h cwd c ar he hm
  obtain ⟨C, hC⟩ : ∃ C, C = entG d0 d1 d2 d3 d4 d5 d6 d7 (tx nm) true 0 0 0 0 0 0 0 0 false := ⟨_, rfl⟩
  rw [← hC] at hc
  have HC := Lib.hid hc
  have HD := Lib.hid (infC_inj hd)
  have HM := Lib.hid hm
  clear hm hc hd
  have HCS : Hid (C.size = 19) := Lib.hid (by rw [hC]; rfl)
  have HC1 : Hid (C.all (·.oneCell') = true) := Lib.hid (by rw [hC]; exact entG_one)
  have HCX9 : Hid (C[9]? = some (.bool true)) := Lib.hid (by rw [hC]; rfl)
  have HCX18 : Hid (C[18]? = some (.bool false)) := Lib.hid (by rw [hC]; rfl)
  clear h hg hF hq hq2 hk h0 hfd he hC
  unfold cred
  unfold ask at HF HC
  go_enter Try.func17, Try.ntmps17
  go_wp2_with fail
  refine (HF.out _ (belowA (belowA (Below.refl _ _) _) _)).mono ?_
  rintro e w2 ⟨rfl, hb⟩
  have HB := Lib.hid (two_below hb)
  rw [alloc_size, alloc_size] at hb
  obtain ⟨_, b1, hlt, _⟩ := two_blocks hb
  have hlt2 : w.heap.size + 1 < w2.heap.size := hlt
  have a0 : w2.cell? ⟨w.heap.size + 1, 0, none⟩ = some (.pointer (some ⟨t, 0, none⟩)) := cell_of b1 0
  have a1 : w2.cell? ⟨w.heap.size + 1, 1, none⟩ = some (.int .i64 cwd) := cell_of b1 1
  have a2 : w2.cell? ⟨w.heap.size + 1, 2, none⟩ = some (.int .i64 c.real) := cell_of b1 2
  have a3 : w2.cell? ⟨w.heap.size + 1, 3, none⟩ = some (.int .i64 c.eff) := cell_of b1 3
  have a4 : w2.cell? ⟨w.heap.size + 1, 4, none⟩ = some (.int .i64 c.saved) := cell_of b1 4
  have a5 : w2.cell? ⟨w.heap.size + 1, 5, none⟩ = some (.int .i64 c.group) := cell_of b1 5
  have a6 : w2.cell? ⟨w.heap.size + 1, 6, none⟩ = some (.int .i64 c.eg) := cell_of b1 6
  have HB1 := Lib.hid b1
  clear hb hlt b1 HF
  go_wp2_with fail
  refine (HC.out _ (belowA HB.out _)).mono ?_
  rintro e w3 ⟨rfl, hb3⟩
  have HB3 : Hid (Below w.heap.size w w3) := Lib.hid ((belowA HB.out _).trans (hb3.mono (belowA HB.out _).size))
  have hBb := (hb3.block (w.heap.size + 1) (by rw [alloc_size]; omega)).trans ((alloc_heap_old _ _ hlt2).trans HB1.out)
  have hFb := (hb3.block w2.heap.size (by rw [alloc_size]; omega)).trans (alloc_heap w2 _)
  have hl3 : w2.heap.size < w3.heap.size := by have := hb3.size; rw [alloc_size] at this; omega
  have hl4 : w.heap.size + 1 < w3.heap.size := by omega
  clear hb3 HC a0 a1 a2 a3 a4 a5 a6
  obtain ⟨s1, s2, s3⟩ := stored_whole (w3 := w3) (Z := #[.int .i64 0, .int .i64 0, .int .i64 0, .int .i64 0, .int .i64 0, .int .i64 0, .int .i64 0, .int .i64 0, .string ⟨#[]⟩, .bool false, .int .i64 0, .int .i64 0, .int .i64 0, .int .i64 0, .int .i64 0, .int .i64 0, .int .i64 0, .int .i64 0, .bool false]) (C := C) (TY := 77) HCS.out
  have hT : (w3.alloc (.cells #[.int .i64 0, .int .i64 0, .int .i64 0, .int .i64 0, .int .i64 0, .int .i64 0, .int .i64 0, .int .i64 0, .string ⟨#[]⟩, .bool false, .int .i64 0, .int .i64 0, .int .i64 0, .int .i64 0, .int .i64 0, .int .i64 0, .int .i64 0, .int .i64 0, .bool false] 77)).there w3.heap.size 0 C.size := by rw [HCS.out]; exact there_of (alloc_heap w3 _)
  have hI : (Try.prog.info? 77).map (·.size) = some C.size := by rw [HCS.out]; rfl
  have h1C := HC1.out
  have x9 : (World.setCells (w3.alloc (.cells #[.int .i64 0, .int .i64 0, .int .i64 0, .int .i64 0, .int .i64 0, .int .i64 0, .int .i64 0, .int .i64 0, .string ⟨#[]⟩, .bool false, .int .i64 0, .int .i64 0, .int .i64 0, .int .i64 0, .int .i64 0, .int .i64 0, .int .i64 0, .int .i64 0, .bool false] 77)) w3.heap.size 0 C.toList).cell? ⟨w3.heap.size, 9, none⟩ = some (.bool true) := (cell_of s1 9).trans HCX9.out
  have x18 : (World.setCells (w3.alloc (.cells #[.int .i64 0, .int .i64 0, .int .i64 0, .int .i64 0, .int .i64 0, .int .i64 0, .int .i64 0, .int .i64 0, .string ⟨#[]⟩, .bool false, .int .i64 0, .int .i64 0, .int .i64 0, .int .i64 0, .int .i64 0, .int .i64 0, .int .i64 0, .int .i64 0, .bool false] 77)) w3.heap.size 0 C.toList).cell? ⟨w3.heap.size, 18, none⟩ = some (.bool false) := (cell_of s1 18).trans HCX18.out
  clear hBb hFb
  go_wp2_with (refine wpList_store_mid rfl 77 _ _ rfl w3.heap.size 0 C rfl rfl hT hI h1C ?_; generalize World.setCells (w3.alloc (.cells #[.int .i64 0, .int .i64 0, .int .i64 0, .int .i64 0, .int .i64 0, .int .i64 0, .int .i64 0, .int .i64 0, .string ⟨#[]⟩, .bool false, .int .i64 0, .int .i64 0, .int .i64 0, .int .i64 0, .int .i64 0, .int .i64 0, .int .i64 0, .int .i64 0, .bool false] 77)) w3.heap.size 0 C.toList = W5 at s1 s2 s3 x9 x18 ⊢)
  go_ret
  refine ⟨6, rfl, Stp.keepB H.out (HB3.out.trans (s2.mono HB3.out.size)) ?_⟩
  unfold isLink
  rw [HG.out, if_neg (fun hh => hh rfl)]
  refine ⟨q, HQ.out, ?_⟩
  rw [if_neg HK.out, HE.out]
  exact ⟨rfl, rfl⟩
set_option maxRecDepth 100000 in
set_option maxHeartbeats 8000000 in
theorem wlink_go {w : World} {t : Nat} {S : Tab} {T : IT.Tr} (h : Tre w t S T) (cwd : Int) (c : Cr) (s ar : ByteArray) {k0 : Nat} {q : IT.Nd} (hg : findT T c cwd (bs s) = (k0, 0)) (hq : T k0 = some q) (hk : q.kind ≠ 1) {k : Nat} {nm : IT.Bytes} {m : IT.Nd} (he : entryT T c cwd (bs ar) = .ok ⟨k, nm, false, none⟩) (hm : T k = some m) :
    Calls Try.prog 17 #[.pointer (some ⟨t, 0, none⟩), .int .i64 cwd, cred c, .string s, .string ar] w fun e w' => ∃ r, e = .returned (.int .i64 r) ∧ Stp w t S (fun T' => isLink T c cwd (bs s) (bs ar) r T') w' := by
  obtain ⟨f0, f1, f2, f3, f4, f5, f6, f7, h0, _, hF⟩ := wfind_ints h cwd c s hg
  obtain ⟨q2, hq2, hfd⟩ := h0 rfl
  obtain rfl : q = q2 := Option.some.inj (hq.symm.trans hq2)
  have H := Lib.hid h
  have HG := Lib.hid hg
  have HF := Lib.hid hF
  have HQ := Lib.hid hq
  have HK := Lib.hid hk
  have HFI := Lib.hid (infC_inj hfd)
  have hf1 : (f1 == 1) = false := by have := HFI.out.2.1; rw [this] at hk; simpa using hk
  have HE := Lib.hid he
  obtain ⟨d0, d1, d2, d3, d4, d5, d6, d7, hd, hc⟩ := wentry_none h cwd c ar he hm
  obtain ⟨C, hC⟩ : ∃ C, C = entG d0 d1 d2 d3 d4 d5 d6 d7 (tx nm) false 0 0 0 0 0 0 0 0 false := ⟨_, rfl⟩
  rw [← hC] at hc
  have HC := Lib.hid hc
  have HD := Lib.hid (infC_inj hd)
  have HM := Lib.hid hm
  clear hm hc hd
  have HCS : Hid (C.size = 19) := Lib.hid (by rw [hC]; rfl)
  have HC1 : Hid (C.all (·.oneCell') = true) := Lib.hid (by rw [hC]; exact entG_one)
  have HCX0 : Hid (C[0]? = some (.int .i64 d0)) := Lib.hid (by rw [hC]; rfl)
  have HCX1 : Hid (C[1]? = some (.int .i64 d1)) := Lib.hid (by rw [hC]; rfl)
  have HCX2 : Hid (C[2]? = some (.int .i64 d2)) := Lib.hid (by rw [hC]; rfl)
  have HCX3 : Hid (C[3]? = some (.int .i64 d3)) := Lib.hid (by rw [hC]; rfl)
  have HCX4 : Hid (C[4]? = some (.int .i64 d4)) := Lib.hid (by rw [hC]; rfl)
  have HCX5 : Hid (C[5]? = some (.int .i64 d5)) := Lib.hid (by rw [hC]; rfl)
  have HCX6 : Hid (C[6]? = some (.int .i64 d6)) := Lib.hid (by rw [hC]; rfl)
  have HCX7 : Hid (C[7]? = some (.int .i64 d7)) := Lib.hid (by rw [hC]; rfl)
  have HCX8 : Hid (C[8]? = some (.string (tx nm))) := Lib.hid (by rw [hC]; rfl)
  have HCX9 : Hid (C[9]? = some (.bool false)) := Lib.hid (by rw [hC]; rfl)
  have HCX18 : Hid (C[18]? = some (.bool false)) := Lib.hid (by rw [hC]; rfl)
  clear h hg hF hq hq2 hk h0 hfd he hC
  have HMY : Hid (∀ W', Calls Try.prog 42 #[ask t cwd c, infoV d0 d1 d2 d3 d4 d5 d6 d7, .int .i64 2] W' fun e w' => e = .returned (.bool (mayN m c 2)) ∧ Below W'.heap.size W' w') := Lib.hid (fun W' => by
    have hh := wmay_any t cwd c d0 d1 d2 d3 d4 d5 d6 d7 2 W'
    obtain ⟨e0, e1, e2, e3, e4, _, _, _⟩ := HD.out
    rw [← e1, ← e2, ← e3, ← e4] at hh ⊢
    exact hh)
  generalize hq1 : mayN m c 2 = q1 at *
  have HQ1 := Lib.hid hq1
  clear hq1
  unfold ask infoV at HMY
  unfold cred
  unfold ask at HF HC
  go_enter Try.func17, Try.ntmps17
  go_wp2_with fail
  refine (HF.out _ (belowA (belowA (Below.refl _ _) _) _)).mono ?_
  rintro e w2 ⟨rfl, hb⟩
  have HB := Lib.hid (two_below hb)
  rw [alloc_size, alloc_size] at hb
  obtain ⟨_, b1, hlt, _⟩ := two_blocks hb
  have hlt2 : w.heap.size + 1 < w2.heap.size := hlt
  have a0 : w2.cell? ⟨w.heap.size + 1, 0, none⟩ = some (.pointer (some ⟨t, 0, none⟩)) := cell_of b1 0
  have a1 : w2.cell? ⟨w.heap.size + 1, 1, none⟩ = some (.int .i64 cwd) := cell_of b1 1
  have a2 : w2.cell? ⟨w.heap.size + 1, 2, none⟩ = some (.int .i64 c.real) := cell_of b1 2
  have a3 : w2.cell? ⟨w.heap.size + 1, 3, none⟩ = some (.int .i64 c.eff) := cell_of b1 3
  have a4 : w2.cell? ⟨w.heap.size + 1, 4, none⟩ = some (.int .i64 c.saved) := cell_of b1 4
  have a5 : w2.cell? ⟨w.heap.size + 1, 5, none⟩ = some (.int .i64 c.group) := cell_of b1 5
  have a6 : w2.cell? ⟨w.heap.size + 1, 6, none⟩ = some (.int .i64 c.eg) := cell_of b1 6
  have HB1 := Lib.hid b1
  clear hb hlt b1 HF
  go_wp2_with fail
  refine (HC.out _ (belowA HB.out _)).mono ?_
  rintro e w3 ⟨rfl, hb3⟩
  have HB3 : Hid (Below w.heap.size w w3) := Lib.hid ((belowA HB.out _).trans (hb3.mono (belowA HB.out _).size))
  have hBb := (hb3.block (w.heap.size + 1) (by rw [alloc_size]; omega)).trans ((alloc_heap_old _ _ hlt2).trans HB1.out)
  have hFb := (hb3.block w2.heap.size (by rw [alloc_size]; omega)).trans (alloc_heap w2 _)
  have hl3 : w2.heap.size < w3.heap.size := by have := hb3.size; rw [alloc_size] at this; omega
  have hl4 : w.heap.size + 1 < w3.heap.size := by omega
  clear hb3 HC a0 a1 a2 a3 a4 a5 a6
  obtain ⟨s1, s2, s3⟩ := stored_whole (w3 := w3) (Z := #[.int .i64 0, .int .i64 0, .int .i64 0, .int .i64 0, .int .i64 0, .int .i64 0, .int .i64 0, .int .i64 0, .string ⟨#[]⟩, .bool false, .int .i64 0, .int .i64 0, .int .i64 0, .int .i64 0, .int .i64 0, .int .i64 0, .int .i64 0, .int .i64 0, .bool false]) (C := C) (TY := 77) HCS.out
  have hT : (w3.alloc (.cells #[.int .i64 0, .int .i64 0, .int .i64 0, .int .i64 0, .int .i64 0, .int .i64 0, .int .i64 0, .int .i64 0, .string ⟨#[]⟩, .bool false, .int .i64 0, .int .i64 0, .int .i64 0, .int .i64 0, .int .i64 0, .int .i64 0, .int .i64 0, .int .i64 0, .bool false] 77)).there w3.heap.size 0 C.size := by rw [HCS.out]; exact there_of (alloc_heap w3 _)
  have hI : (Try.prog.info? 77).map (·.size) = some C.size := by rw [HCS.out]; rfl
  have h1C := HC1.out
  have x0 : (World.setCells (w3.alloc (.cells #[.int .i64 0, .int .i64 0, .int .i64 0, .int .i64 0, .int .i64 0, .int .i64 0, .int .i64 0, .int .i64 0, .string ⟨#[]⟩, .bool false, .int .i64 0, .int .i64 0, .int .i64 0, .int .i64 0, .int .i64 0, .int .i64 0, .int .i64 0, .int .i64 0, .bool false] 77)) w3.heap.size 0 C.toList).cell? ⟨w3.heap.size, 0, none⟩ = some (.int .i64 d0) := (cell_of s1 0).trans HCX0.out
  have x1 : (World.setCells (w3.alloc (.cells #[.int .i64 0, .int .i64 0, .int .i64 0, .int .i64 0, .int .i64 0, .int .i64 0, .int .i64 0, .int .i64 0, .string ⟨#[]⟩, .bool false, .int .i64 0, .int .i64 0, .int .i64 0, .int .i64 0, .int .i64 0, .int .i64 0, .int .i64 0, .int .i64 0, .bool false] 77)) w3.heap.size 0 C.toList).cell? ⟨w3.heap.size, 1, none⟩ = some (.int .i64 d1) := (cell_of s1 1).trans HCX1.out
  have x2 : (World.setCells (w3.alloc (.cells #[.int .i64 0, .int .i64 0, .int .i64 0, .int .i64 0, .int .i64 0, .int .i64 0, .int .i64 0, .int .i64 0, .string ⟨#[]⟩, .bool false, .int .i64 0, .int .i64 0, .int .i64 0, .int .i64 0, .int .i64 0, .int .i64 0, .int .i64 0, .int .i64 0, .bool false] 77)) w3.heap.size 0 C.toList).cell? ⟨w3.heap.size, 2, none⟩ = some (.int .i64 d2) := (cell_of s1 2).trans HCX2.out
  have x3 : (World.setCells (w3.alloc (.cells #[.int .i64 0, .int .i64 0, .int .i64 0, .int .i64 0, .int .i64 0, .int .i64 0, .int .i64 0, .int .i64 0, .string ⟨#[]⟩, .bool false, .int .i64 0, .int .i64 0, .int .i64 0, .int .i64 0, .int .i64 0, .int .i64 0, .int .i64 0, .int .i64 0, .bool false] 77)) w3.heap.size 0 C.toList).cell? ⟨w3.heap.size, 3, none⟩ = some (.int .i64 d3) := (cell_of s1 3).trans HCX3.out
  have x4 : (World.setCells (w3.alloc (.cells #[.int .i64 0, .int .i64 0, .int .i64 0, .int .i64 0, .int .i64 0, .int .i64 0, .int .i64 0, .int .i64 0, .string ⟨#[]⟩, .bool false, .int .i64 0, .int .i64 0, .int .i64 0, .int .i64 0, .int .i64 0, .int .i64 0, .int .i64 0, .int .i64 0, .bool false] 77)) w3.heap.size 0 C.toList).cell? ⟨w3.heap.size, 4, none⟩ = some (.int .i64 d4) := (cell_of s1 4).trans HCX4.out
  have x5 : (World.setCells (w3.alloc (.cells #[.int .i64 0, .int .i64 0, .int .i64 0, .int .i64 0, .int .i64 0, .int .i64 0, .int .i64 0, .int .i64 0, .string ⟨#[]⟩, .bool false, .int .i64 0, .int .i64 0, .int .i64 0, .int .i64 0, .int .i64 0, .int .i64 0, .int .i64 0, .int .i64 0, .bool false] 77)) w3.heap.size 0 C.toList).cell? ⟨w3.heap.size, 5, none⟩ = some (.int .i64 d5) := (cell_of s1 5).trans HCX5.out
  have x6 : (World.setCells (w3.alloc (.cells #[.int .i64 0, .int .i64 0, .int .i64 0, .int .i64 0, .int .i64 0, .int .i64 0, .int .i64 0, .int .i64 0, .string ⟨#[]⟩, .bool false, .int .i64 0, .int .i64 0, .int .i64 0, .int .i64 0, .int .i64 0, .int .i64 0, .int .i64 0, .int .i64 0, .bool false] 77)) w3.heap.size 0 C.toList).cell? ⟨w3.heap.size, 6, none⟩ = some (.int .i64 d6) := (cell_of s1 6).trans HCX6.out
  have x7 : (World.setCells (w3.alloc (.cells #[.int .i64 0, .int .i64 0, .int .i64 0, .int .i64 0, .int .i64 0, .int .i64 0, .int .i64 0, .int .i64 0, .string ⟨#[]⟩, .bool false, .int .i64 0, .int .i64 0, .int .i64 0, .int .i64 0, .int .i64 0, .int .i64 0, .int .i64 0, .int .i64 0, .bool false] 77)) w3.heap.size 0 C.toList).cell? ⟨w3.heap.size, 7, none⟩ = some (.int .i64 d7) := (cell_of s1 7).trans HCX7.out
  have x8 : (World.setCells (w3.alloc (.cells #[.int .i64 0, .int .i64 0, .int .i64 0, .int .i64 0, .int .i64 0, .int .i64 0, .int .i64 0, .int .i64 0, .string ⟨#[]⟩, .bool false, .int .i64 0, .int .i64 0, .int .i64 0, .int .i64 0, .int .i64 0, .int .i64 0, .int .i64 0, .int .i64 0, .bool false] 77)) w3.heap.size 0 C.toList).cell? ⟨w3.heap.size, 8, none⟩ = some (.string (tx nm)) := (cell_of s1 8).trans HCX8.out
  have x9 : (World.setCells (w3.alloc (.cells #[.int .i64 0, .int .i64 0, .int .i64 0, .int .i64 0, .int .i64 0, .int .i64 0, .int .i64 0, .int .i64 0, .string ⟨#[]⟩, .bool false, .int .i64 0, .int .i64 0, .int .i64 0, .int .i64 0, .int .i64 0, .int .i64 0, .int .i64 0, .int .i64 0, .bool false] 77)) w3.heap.size 0 C.toList).cell? ⟨w3.heap.size, 9, none⟩ = some (.bool false) := (cell_of s1 9).trans HCX9.out
  have x18 : (World.setCells (w3.alloc (.cells #[.int .i64 0, .int .i64 0, .int .i64 0, .int .i64 0, .int .i64 0, .int .i64 0, .int .i64 0, .int .i64 0, .string ⟨#[]⟩, .bool false, .int .i64 0, .int .i64 0, .int .i64 0, .int .i64 0, .int .i64 0, .int .i64 0, .int .i64 0, .int .i64 0, .bool false] 77)) w3.heap.size 0 C.toList).cell? ⟨w3.heap.size, 18, none⟩ = some (.bool false) := (cell_of s1 18).trans HCX18.out
  have huB := (s2.block _ hl4).trans hBb
  have huL : w.heap.size + 1 < (World.setCells (w3.alloc (.cells #[.int .i64 0, .int .i64 0, .int .i64 0, .int .i64 0, .int .i64 0, .int .i64 0, .int .i64 0, .int .i64 0, .string ⟨#[]⟩, .bool false, .int .i64 0, .int .i64 0, .int .i64 0, .int .i64 0, .int .i64 0, .int .i64 0, .int .i64 0, .int .i64 0, .bool false] 77)) w3.heap.size 0 C.toList).heap.size := by have := hl4; omega
  have u0 : (World.setCells (w3.alloc (.cells #[.int .i64 0, .int .i64 0, .int .i64 0, .int .i64 0, .int .i64 0, .int .i64 0, .int .i64 0, .int .i64 0, .string ⟨#[]⟩, .bool false, .int .i64 0, .int .i64 0, .int .i64 0, .int .i64 0, .int .i64 0, .int .i64 0, .int .i64 0, .int .i64 0, .bool false] 77)) w3.heap.size 0 C.toList).cell? ⟨w.heap.size + 1, 0, none⟩ = some (.pointer (some ⟨t, 0, none⟩)) := cell_of huB 0
  have u1 : (World.setCells (w3.alloc (.cells #[.int .i64 0, .int .i64 0, .int .i64 0, .int .i64 0, .int .i64 0, .int .i64 0, .int .i64 0, .int .i64 0, .string ⟨#[]⟩, .bool false, .int .i64 0, .int .i64 0, .int .i64 0, .int .i64 0, .int .i64 0, .int .i64 0, .int .i64 0, .int .i64 0, .bool false] 77)) w3.heap.size 0 C.toList).cell? ⟨w.heap.size + 1, 1, none⟩ = some (.int .i64 cwd) := cell_of huB 1
  have u2 : (World.setCells (w3.alloc (.cells #[.int .i64 0, .int .i64 0, .int .i64 0, .int .i64 0, .int .i64 0, .int .i64 0, .int .i64 0, .int .i64 0, .string ⟨#[]⟩, .bool false, .int .i64 0, .int .i64 0, .int .i64 0, .int .i64 0, .int .i64 0, .int .i64 0, .int .i64 0, .int .i64 0, .bool false] 77)) w3.heap.size 0 C.toList).cell? ⟨w.heap.size + 1, 2, none⟩ = some (.int .i64 c.real) := cell_of huB 2
  have u3 : (World.setCells (w3.alloc (.cells #[.int .i64 0, .int .i64 0, .int .i64 0, .int .i64 0, .int .i64 0, .int .i64 0, .int .i64 0, .int .i64 0, .string ⟨#[]⟩, .bool false, .int .i64 0, .int .i64 0, .int .i64 0, .int .i64 0, .int .i64 0, .int .i64 0, .int .i64 0, .int .i64 0, .bool false] 77)) w3.heap.size 0 C.toList).cell? ⟨w.heap.size + 1, 3, none⟩ = some (.int .i64 c.eff) := cell_of huB 3
  have u4 : (World.setCells (w3.alloc (.cells #[.int .i64 0, .int .i64 0, .int .i64 0, .int .i64 0, .int .i64 0, .int .i64 0, .int .i64 0, .int .i64 0, .string ⟨#[]⟩, .bool false, .int .i64 0, .int .i64 0, .int .i64 0, .int .i64 0, .int .i64 0, .int .i64 0, .int .i64 0, .int .i64 0, .bool false] 77)) w3.heap.size 0 C.toList).cell? ⟨w.heap.size + 1, 4, none⟩ = some (.int .i64 c.saved) := cell_of huB 4
  have u5 : (World.setCells (w3.alloc (.cells #[.int .i64 0, .int .i64 0, .int .i64 0, .int .i64 0, .int .i64 0, .int .i64 0, .int .i64 0, .int .i64 0, .string ⟨#[]⟩, .bool false, .int .i64 0, .int .i64 0, .int .i64 0, .int .i64 0, .int .i64 0, .int .i64 0, .int .i64 0, .int .i64 0, .bool false] 77)) w3.heap.size 0 C.toList).cell? ⟨w.heap.size + 1, 5, none⟩ = some (.int .i64 c.group) := cell_of huB 5
  have u6 : (World.setCells (w3.alloc (.cells #[.int .i64 0, .int .i64 0, .int .i64 0, .int .i64 0, .int .i64 0, .int .i64 0, .int .i64 0, .int .i64 0, .string ⟨#[]⟩, .bool false, .int .i64 0, .int .i64 0, .int .i64 0, .int .i64 0, .int .i64 0, .int .i64 0, .int .i64 0, .int .i64 0, .bool false] 77)) w3.heap.size 0 C.toList).cell? ⟨w.heap.size + 1, 6, none⟩ = some (.int .i64 c.eg) := cell_of huB 6
  have hvB := (s2.block _ hl3).trans hFb
  have hvL : w2.heap.size < (World.setCells (w3.alloc (.cells #[.int .i64 0, .int .i64 0, .int .i64 0, .int .i64 0, .int .i64 0, .int .i64 0, .int .i64 0, .int .i64 0, .string ⟨#[]⟩, .bool false, .int .i64 0, .int .i64 0, .int .i64 0, .int .i64 0, .int .i64 0, .int .i64 0, .int .i64 0, .int .i64 0, .bool false] 77)) w3.heap.size 0 C.toList).heap.size := by have := hl3; omega
  have v0 : (World.setCells (w3.alloc (.cells #[.int .i64 0, .int .i64 0, .int .i64 0, .int .i64 0, .int .i64 0, .int .i64 0, .int .i64 0, .int .i64 0, .string ⟨#[]⟩, .bool false, .int .i64 0, .int .i64 0, .int .i64 0, .int .i64 0, .int .i64 0, .int .i64 0, .int .i64 0, .int .i64 0, .bool false] 77)) w3.heap.size 0 C.toList).cell? ⟨w2.heap.size, 0, none⟩ = some (.int .i64 f0) := cell_of hvB 0
  clear hBb hFb hl3 hl4
  go_wp2_with (refine wpList_store_mid rfl 77 _ _ rfl w3.heap.size 0 C rfl rfl hT hI h1C ?_; generalize World.setCells (w3.alloc (.cells #[.int .i64 0, .int .i64 0, .int .i64 0, .int .i64 0, .int .i64 0, .int .i64 0, .int .i64 0, .int .i64 0, .string ⟨#[]⟩, .bool false, .int .i64 0, .int .i64 0, .int .i64 0, .int .i64 0, .int .i64 0, .int .i64 0, .int .i64 0, .int .i64 0, .bool false] 77)) w3.heap.size 0 C.toList = W5 at s1 s2 s3 x0 x1 x2 x3 x4 x5 x6 x7 x8 x9 x18 huB huL u0 u1 u2 u3 u4 u5 u6 hvB hvL v0 ⊢)
  refine (HMY.out _).mono ?_
  rintro e w6 ⟨rfl, hb6⟩
  have HB5 : Hid (Below w.heap.size w W5) := Lib.hid (HB3.out.trans (s2.mono HB3.out.size))
  have HB6 : Hid (Below w.heap.size w w6) := Lib.hid (HB5.out.trans (hb6.mono HB5.out.size))
  have s6 := (hb6.block _ (lt_of_heap s1)).trans s1
  have hv6 := (hb6.block _ (lt_of_heap hvB)).trans hvB
  clear x0 x1 x2 x3 x4 x5 x6 x7 x8 x9 x18 u0 u1 u2 u3 u4 u5 u6 v0 s1 s2 s3 hT hI h1C huB huL hvB hvL
  cases q1 with
  | false =>
    clear s6 hv6 hb6
    go_wp2
    go_ret
    refine ⟨4, rfl, Stp.keepB H.out HB6.out ?_⟩
    unfold isLink
    rw [HG.out, if_neg (fun hh => hh rfl)]
    refine ⟨q, HQ.out, ?_⟩
    rw [if_neg HK.out, HE.out]
    refine ⟨m, HM.out, ?_⟩
    rw [if_pos HQ1.out]
    exact ⟨rfl, rfl⟩
  | true =>
    have y0 : w6.cell? ⟨w3.heap.size, 0, none⟩ = some (.int .i64 d0) := (cell_of s6 0).trans HCX0.out
    have y8 : w6.cell? ⟨w3.heap.size, 8, none⟩ = some (.string (tx nm)) := (cell_of s6 8).trans HCX8.out
    have z0 : w6.cell? ⟨w2.heap.size, 0, none⟩ = some (.int .i64 f0) := cell_of hv6 0
    clear s6 hv6 hb6
    go_wp2_with fail
    refine (enter_any (H.out.mv ((Mv.refl H.out.rep).below HB6.out)) d0 f0 (tx nm)).mono ?_
    rintro e w9 ⟨r, rfl, hs⟩
    have HS := Lib.hid (Stp.pre ((Mv.refl H.out.rep).below HB6.out) hs)
    clear hs
    go_wp2
    go_ret
    refine ⟨r, rfl, HS.out.imp fun T' hT' => ?_⟩
    unfold isLink
    rw [HG.out, if_neg (fun hh => hh rfl)]
    refine ⟨q, HQ.out, ?_⟩
    rw [if_neg HK.out, HE.out]
    refine ⟨m, HM.out, ?_⟩
    rw [if_neg (by rw [HQ1.out]; decide)]
    rw [← HD.out.1, ← HFI.out.1, bs_tx] at hT'
    exact hT'
theorem walkLink_any {w : World} {t : Nat} {S : Tab} {T : IT.Tr} (h : Tre w t S T) (cwd : Int) (c : Cr) (s ar : ByteArray) :
    Calls Try.prog 17 #[.pointer (some ⟨t, 0, none⟩), .int .i64 cwd, cred c, .string s, .string ar] w fun e w' => ∃ r, e = .returned (.int .i64 r) ∧ Stp w t S (fun T' => isLink T c cwd (bs s) (bs ar) r T') w' := by
  obtain ⟨⟨k0, r0⟩, hg⟩ : ∃ g, findT T c cwd (bs s) = g := ⟨_, rfl⟩
  by_cases hz : r0 = 0
  · subst hz
    have hft := find_there (c := c) (cwd := cwd) (s := bs s) h.snd
    rw [hg] at hft
    obtain ⟨q, hq⟩ := hft rfl
    by_cases hk : q.kind = 1
    · exact wlink_dir h cwd c s ar hg hq hk
    · cases he : entryT T c cwd (bs ar) with
      | error r1 => exact wlink_err h cwd c s ar hg hq hk he
      | ok x =>
        obtain ⟨m, hm, hto, _⟩ := entry_ok he
        obtain ⟨k, nm, must, to⟩ := x
        dsimp only at hm hto
        cases to with
        | some j =>
          obtain ⟨q3, hq3⟩ := look_there h.snd hto.symm
          exact wlink_is h cwd c s ar hg hq hk he hm hq3
        | none =>
          cases must with
          | true => exact wlink_must h cwd c s ar hg hq hk he hm
          | false => exact wlink_go h cwd c s ar hg hq hk he hm
  · exact wlink_find h cwd c s ar hg hz
end Go.Proofs.Ytafonmnfeibaiaa
namespace Go.Proofs.Ytafonmnfeibaiaa
open Go.RowKit

/-! ### walk: Open: what it answers -/
structure Ho where
  want : Int
  make : Bool
  alone : Bool
  empty : Bool
  fin : Bool
  mode : Int
def howV (o : Ho) : Value := .agg #[.int .i64 o.want, .bool o.make, .bool o.alone, .bool o.empty, .bool o.fin, .int .i64 o.mode]
def openB (o : Ho) : Bool := bits .andNot .i64 o.want 6 == 0 && (!(o.want == 0) && Md.rightB o.mode)
/-- An inode is opened that is there. -/
def isOpened (T : IT.Tr) (c : Cr) (o : Ho) (k : Nat) (i : Nat) (r : Int) (T' : IT.Tr) : Prop :=
  ∃ q, T k = some q ∧
    if (bits .and .i64 o.want 2 != 0) = true ∧ q.kind = 1 then i = 0 ∧ r = 7 ∧ T' = T
    else if mayN q c o.want = false then i = 0 ∧ r = 4 ∧ T' = T
    else i = k ∧ r = 0 ∧ ∃ b T1, IT.isHold T k b T1 ∧
      if o.empty = true ∧ (bits .and .i64 o.want 2 != 0) = true ∧ q.kind = 0 then ∃ r2 T2, IT.isCut T1 k r2 T2 ∧ isPlainer T2 k T' else T' = T1
def isOpen (T : IT.Tr) (c : Cr) (cwd : Int) (s : IT.Bytes) (o : Ho) (i : Nat) (r : Int) (T' : IT.Tr) : Prop :=
  if openB o = false then i = 0 ∧ r = 1 ∧ T' = T
  else if o.make = true then match entryT T c cwd s with
    | .error e => i = 0 ∧ r = e ∧ T' = T
    | .ok x => match x.to with
      | none => if x.must = true then i = 0 ∧ r = 7 ∧ T' = T else ∃ m, T x.dir = some m ∧ isMakes (mayN m c 2) T c x.dir x.name 0 o.mode i r T'
      | some j => if o.alone = true then i = 0 ∧ r = 5 ∧ T' = T
        else if x.must = true ∧ (∀ q, T j = some q → q.kind ≠ 1) then i = 0 ∧ r = 6 ∧ T' = T
        else isOpened T c o j i r T'
  else if (findT T c cwd s).2 ≠ 0 then i = 0 ∧ r = (findT T c cwd s).2 ∧ T' = T
  else isOpened T c o (findT T c cwd s).1 i r T'
theorem isOpened.sound {T T' : IT.Tr} {c : Cr} {o : Ho} {k i : Nat} {r : Int} (h : isOpened T c o k i r T') (hs : IT.Sound okN T) : IT.Sound okN T' := by
  obtain ⟨q, _, h⟩ := h
  split at h
  · exact h.2.2 ▸ hs
  · split at h
    · exact h.2.2 ▸ hs
    · obtain ⟨_, _, b, T1, h1, h⟩ := h
      split at h
      · obtain ⟨r2, T2, h2, h3⟩ := h
        exact isPlainer.sound h3 (h2.sound (h1.sound hs))
      · exact h ▸ h1.sound hs
theorem HB.opened {T T' : IT.Tr} {c : Cr} {o : Ho} {k i B : Nat} {r : Int} (hb : HB T B) (h : isOpened T c o k i r T') : HB T' (B + 1) := by
  obtain ⟨q, _, h⟩ := h
  split at h
  · exact (h.2.2 ▸ hb).mono (Nat.le_succ B)
  · split at h
    · exact (h.2.2 ▸ hb).mono (Nat.le_succ B)
    · obtain ⟨_, _, b, T1, h1, h⟩ := h
      split at h
      · obtain ⟨r2, T2, h2, h3⟩ := h
        exact ((hb.hold h1).cut h2).plainer h3
      · exact h ▸ hb.hold h1
end Go.Proofs.Ytafonmnfeibaiaa
namespace Go.Proofs.Ytafonmnfeibaiaa
open Go.RowKit

/-! ### walk: Open: refused at once -/
set_option maxRecDepth 100000 in
set_option maxHeartbeats 4000000 in
theorem wopen_bad {w : World} {t : Nat} {S : Tab} {T : IT.Tr} (h : Tre w t S T) (cwd : Int) (c : Cr) (s : ByteArray) (o : Ho) (ho : openB o = false) :
    Calls Try.prog 15 #[.pointer (some ⟨t, 0, none⟩), .int .i64 cwd, cred c, .string s, howV o] w fun e w' => ∃ (i : Nat) (r : Int), e = .returned (.tuple #[.int .i64 i, .int .i64 r]) ∧ Stp w t S (fun T' => isOpen T c cwd (bs s) o i r T') w' := by
  have H := Lib.hid h
  have HO := Lib.hid ho
  have HR : Hid (∀ W', Calls Try.prog 36 #[.int .i64 o.mode] W' fun e w' => e = .returned (.bool (Md.rightB o.mode)) ∧ w' = W') := Lib.hid (fun W' => Md.right_any o.mode W')
  clear h
  unfold openB at ho
  have e1 : (bits BinOp.andNot .i64 o.want 6 != 0) = !(bits BinOp.andNot .i64 o.want 6 == 0) := rfl
  unfold cred howV
  cases h1 : (bits BinOp.andNot .i64 o.want 6 == 0) with
  | false =>
    rw [h1] at e1
    clear ho h1 HR
    go_enter Try.func15, Try.ntmps15
    go_wp2
    go_ret2
    refine ⟨0, 1, rfl, Stp.keepB H.out (belowA (belowA (belowA (Below.refl _ _) _) _) _) ?_⟩
    unfold isOpen
    rw [if_pos HO.out]
    exact ⟨rfl, rfl, rfl⟩
  | true =>
    rw [h1] at e1
    cases h2 : (o.want == 0) with
    | true =>
      clear ho h1 HR
      go_enter Try.func15, Try.ntmps15
      go_wp2
      go_ret2
      refine ⟨0, 1, rfl, Stp.keepB H.out (belowA (belowA (belowA (Below.refl _ _) _) _) _) ?_⟩
      unfold isOpen
      rw [if_pos HO.out]
      exact ⟨rfl, rfl, rfl⟩
    | false =>
      have h3 : Md.rightB o.mode = false := by rw [h1, h2] at ho; simpa using ho
      rw [h3] at HR
      clear ho h1 h3
      go_enter Try.func15, Try.ntmps15
      go_wp2_with fail
      refine (HR.out _).mono ?_
      rintro e w2 ⟨rfl, rfl⟩
      go_wp2
      go_ret2
      refine ⟨0, 1, rfl, Stp.keepB H.out (belowA (belowA (belowA (Below.refl _ _) _) _) _) ?_⟩
      unfold isOpen
      rw [if_pos HO.out]
      exact ⟨rfl, rfl, rfl⟩
end Go.Proofs.Ytafonmnfeibaiaa
namespace Go.Proofs.Ytafonmnfeibaiaa
open Go.RowKit

/-- Four blocks, and what they are behind a call. -/
theorem four_blocks {w w3 : World} {A B C D : Array Value} {TA TB TC TD : TypeId} (hb : Below ((((w.alloc (.cells A TA)).alloc (.cells B TB)).alloc (.cells C TC)).alloc (.cells D TD)).heap.size ((((w.alloc (.cells A TA)).alloc (.cells B TB)).alloc (.cells C TC)).alloc (.cells D TD)) w3) :
    w3.heap[w.heap.size]? = some (.cells A TA (0, 0)) ∧ w3.heap[w.heap.size + 1]? = some (.cells B TB (0, 0)) ∧ w3.heap[w.heap.size + 1 + 1]? = some (.cells C TC (0, 0)) ∧ w3.heap[w.heap.size + 1 + 1 + 1]? = some (.cells D TD (0, 0)) ∧ w.heap.size + 1 + 1 + 1 < w3.heap.size ∧ Below w.heap.size w w3 := by
  have hs := hb.size
  rw [alloc_size, alloc_size, alloc_size, alloc_size] at hs hb
  have d := alloc_heap (((w.alloc (.cells A TA)).alloc (.cells B TB)).alloc (.cells C TC)) (.cells D TD)
  have c := alloc_heap ((w.alloc (.cells A TA)).alloc (.cells B TB)) (.cells C TC)
  have b := alloc_heap (w.alloc (.cells A TA)) (.cells B TB)
  rw [alloc_size, alloc_size, alloc_size] at d
  rw [alloc_size, alloc_size] at c
  rw [alloc_size] at b
  refine ⟨?_, ?_, ?_, ?_, by omega, (belowA (belowA (belowA (belowA (Below.refl _ _) _) _) _) _).trans (hb.mono (by omega))⟩
  · rw [hb.block _ (by omega), alloc_heap_old _ _ (by rw [alloc_size, alloc_size, alloc_size]; omega), alloc_heap_old _ _ (by rw [alloc_size, alloc_size]; omega), alloc_heap_old _ _ (by rw [alloc_size]; omega), alloc_heap]
  · rw [hb.block _ (by omega), alloc_heap_old _ _ (by rw [alloc_size, alloc_size, alloc_size]; omega), alloc_heap_old _ _ (by rw [alloc_size, alloc_size]; omega)]; exact b
  · rw [hb.block _ (by omega), alloc_heap_old _ _ (by rw [alloc_size, alloc_size, alloc_size]; omega)]; exact c
  · rw [hb.block _ (by omega)]; exact d
set_option maxRecDepth 100000 in
set_option maxHeartbeats 4000000 in
theorem wopen_nofind {w : World} {t : Nat} {S : Tab} {T : IT.Tr} (h : Tre w t S T) (cwd : Int) (c : Cr) (s : ByteArray) (o : Ho) (ho : openB o = true) (hmk : o.make = false) {k0 : Nat} {r0 : Int} (hg : findT T c cwd (bs s) = (k0, r0)) (hz : r0 ≠ 0) :
    Calls Try.prog 15 #[.pointer (some ⟨t, 0, none⟩), .int .i64 cwd, cred c, .string s, howV o] w fun e w' => ∃ (i : Nat) (r : Int), e = .returned (.tuple #[.int .i64 i, .int .i64 r]) ∧ Stp w t S (fun T' => isOpen T c cwd (bs s) o i r T') w' := by
  obtain ⟨f0, f1, f2, f3, f4, f5, f6, f7, _, _, hF⟩ := wfind_ints h cwd c s hg
  have H := Lib.hid h
  have HO := Lib.hid ho
  have HG := Lib.hid hg
  have HF := Lib.hid hF
  have HNZ := Lib.hid hz
  have hz1 : (r0 != 0) = true := by simpa using hz
  have HMK := Lib.hid hmk
  obtain ⟨want, make, alone, empty, fin, mode⟩ := o
  dsimp only at hmk
  subst hmk
  have h123 : (bits BinOp.andNot .i64 want 6 == 0) = true ∧ (want == 0) = false ∧ Md.rightB mode = true := by
    unfold openB at ho
    simpa using ho
  obtain ⟨h1, h2, h3⟩ := h123
  have e1 : (bits BinOp.andNot .i64 want 6 != 0) = false := by rw [bne, h1]; rfl
  have HR : Hid (∀ W', Calls Try.prog 36 #[.int .i64 mode] W' fun e w' => e = .returned (.bool true) ∧ w' = W') := Lib.hid (fun W' => by
    have := Md.right_any mode W'; rw [h3] at this; exact this)
  clear h ho hg hF hz h1 h3
  unfold cred howV
  unfold ask at HF
  go_enter Try.func15, Try.ntmps15
  go_wp2_with fail
  refine (HR.out _).mono ?_
  rintro e w2 ⟨rfl, rfl⟩
  go_wp2_with fail
  refine (HF.out _ (belowA (belowA (belowA (belowA (Below.refl _ _) _) _) _) _)).mono ?_
  rintro e w3 ⟨rfl, hb⟩
  obtain ⟨_, _, _, q3, hlt, hbb⟩ := four_blocks hb
  have HB := Lib.hid hbb
  have p0 : w3.cell? ⟨w.heap.size + 1 + 1 + 1, 0, none⟩ = some (.int .i64 0) := cell_of q3 0
  have s0 : w3.frozen? ⟨w.heap.size + 1 + 1 + 1, 0, none⟩ = false := frozen_of q3 0
  have p1 : w3.cell? ⟨w.heap.size + 1 + 1 + 1, 1, none⟩ = some (.int .i64 0) := cell_of q3 1
  have s1 : w3.frozen? ⟨w.heap.size + 1 + 1 + 1, 1, none⟩ = false := frozen_of q3 1
  have p2 : w3.cell? ⟨w.heap.size + 1 + 1 + 1, 2, none⟩ = some (.int .i64 0) := cell_of q3 2
  have s2 : w3.frozen? ⟨w.heap.size + 1 + 1 + 1, 2, none⟩ = false := frozen_of q3 2
  have p3 : w3.cell? ⟨w.heap.size + 1 + 1 + 1, 3, none⟩ = some (.int .i64 0) := cell_of q3 3
  have s3 : w3.frozen? ⟨w.heap.size + 1 + 1 + 1, 3, none⟩ = false := frozen_of q3 3
  have p4 : w3.cell? ⟨w.heap.size + 1 + 1 + 1, 4, none⟩ = some (.int .i64 0) := cell_of q3 4
  have s4 : w3.frozen? ⟨w.heap.size + 1 + 1 + 1, 4, none⟩ = false := frozen_of q3 4
  have p5 : w3.cell? ⟨w.heap.size + 1 + 1 + 1, 5, none⟩ = some (.int .i64 0) := cell_of q3 5
  have s5 : w3.frozen? ⟨w.heap.size + 1 + 1 + 1, 5, none⟩ = false := frozen_of q3 5
  have p6 : w3.cell? ⟨w.heap.size + 1 + 1 + 1, 6, none⟩ = some (.int .i64 0) := cell_of q3 6
  have s6 : w3.frozen? ⟨w.heap.size + 1 + 1 + 1, 6, none⟩ = false := frozen_of q3 6
  have p7 : w3.cell? ⟨w.heap.size + 1 + 1 + 1, 7, none⟩ = some (.int .i64 0) := cell_of q3 7
  have s7 : w3.frozen? ⟨w.heap.size + 1 + 1 + 1, 7, none⟩ = false := frozen_of q3 7
  clear hb HF q3 hbb
  go_wp2
  go_ret2
  refine ⟨0, r0, rfl, Stp.keepB H.out (below_set8 HB.out (by omega)) ?_⟩
  unfold isOpen
  rw [if_neg (by rw [HO.out]; decide), if_neg (by simp), HG.out, if_pos HNZ.out]
  exact ⟨rfl, rfl, rfl⟩
end Go.Proofs.Ytafonmnfeibaiaa
namespace Go.Proofs.Ytafonmnfeibaiaa
open Go.RowKit

/-! ### walk: Open: what find found (under way) -/
set_option maxRecDepth 100000 in
set_option maxHeartbeats 4000000 in
theorem wopen_find {w : World} {t : Nat} {S : Tab} {T : IT.Tr} (h : Tre w t S T) (hh : HB T 999999) (cwd : Int) (c : Cr) (s : ByteArray) (o : Ho) (ho : openB o = true) (hmk : o.make = false) {k0 : Nat} (hg : findT T c cwd (bs s) = (k0, 0)) :
    Calls Try.prog 15 #[.pointer (some ⟨t, 0, none⟩), .int .i64 cwd, cred c, .string s, howV o] w fun e w' => ∃ (i : Nat) (r : Int), e = .returned (.tuple #[.int .i64 i, .int .i64 r]) ∧ Stp w t S (fun T' => isOpen T c cwd (bs s) o i r T') w' := by
  obtain ⟨f0, f1, f2, f3, f4, f5, f6, f7, h0, _, hF⟩ := wfind_ints h cwd c s hg
  obtain ⟨q, hq, hd⟩ := h0 rfl
  have H := Lib.hid h
  have HH := Lib.hid hh
  have HO := Lib.hid ho
  have HG := Lib.hid hg
  have HF := Lib.hid hF
  have HQ := Lib.hid hq
  have HD := Lib.hid (infC_inj hd)
  have HMK := Lib.hid hmk
  obtain ⟨want, make, alone, empty, fin, mode⟩ := o
  dsimp only at hmk
  subst hmk
  have h123 : (bits BinOp.andNot .i64 want 6 == 0) = true ∧ (want == 0) = false ∧ Md.rightB mode = true := by
    unfold openB at ho
    simpa using ho
  obtain ⟨h1, h2, h3⟩ := h123
  have e1 : (bits BinOp.andNot .i64 want 6 != 0) = false := by rw [bne, h1]; rfl
  have HR : Hid (∀ W', Calls Try.prog 36 #[.int .i64 mode] W' fun e w' => e = .returned (.bool true) ∧ w' = W') := Lib.hid (fun W' => by
    have := Md.right_any mode W'; rw [h3] at this; exact this)
  have HM : Hid (∀ W', Calls Try.prog 42 #[ask t cwd c, infoV f0 f1 f2 f3 f4 f5 f6 f7, .int .i64 want] W' fun e w' => e = .returned (.bool (mayN q c want)) ∧ Below W'.heap.size W' w') := Lib.hid (fun W' => by
    have hh := wmay_any t cwd c f0 f1 f2 f3 f4 f5 f6 f7 want W'
    obtain ⟨e0, e1, e2, e3, e4, _, _, _⟩ := HD.out
    rw [← e1, ← e2, ← e3, ← e4] at hh ⊢
    exact hh)
  clear h hh ho hg hF h1 h3 h0 hq hd
  unfold cred howV
  unfold ask at HF HM
  unfold infoV at HM
  cases hw : (bits BinOp.and .i64 want 2 != 0) with
  | false =>
    have HW := Lib.hid hw
    go_enter Try.func15, Try.ntmps15
    go_wp2_with fail
    refine (HR.out _).mono ?_
    rintro e w2 ⟨rfl, rfl⟩
    go_wp2_with fail
    refine (HF.out _ (belowA (belowA (belowA (belowA (Below.refl _ _) _) _) _) _)).mono ?_
    rintro e w3 ⟨rfl, hb⟩
    obtain ⟨_, q1, q2, q3, hlt, hbb⟩ := four_blocks hb
    have HB := Lib.hid hbb
    have hlt1 : w.heap.size + 1 < w3.heap.size := by omega
    have hlt2 : w.heap.size + 1 + 1 < w3.heap.size := by omega
    have u0 : w3.cell? ⟨w.heap.size + 1, 0, none⟩ = some (.int .i64 want) := cell_of q1 0
    have u3 : w3.cell? ⟨w.heap.size + 1, 3, none⟩ = some (.bool empty) := cell_of q1 3
    have a0 : w3.cell? ⟨w.heap.size + 1 + 1, 0, none⟩ = some (.pointer (some ⟨t, 0, none⟩)) := cell_of q2 0
    have a1 : w3.cell? ⟨w.heap.size + 1 + 1, 1, none⟩ = some (.int .i64 cwd) := cell_of q2 1
    have a2 : w3.cell? ⟨w.heap.size + 1 + 1, 2, none⟩ = some (.int .i64 c.real) := cell_of q2 2
    have a3 : w3.cell? ⟨w.heap.size + 1 + 1, 3, none⟩ = some (.int .i64 c.eff) := cell_of q2 3
    have a4 : w3.cell? ⟨w.heap.size + 1 + 1, 4, none⟩ = some (.int .i64 c.saved) := cell_of q2 4
    have a5 : w3.cell? ⟨w.heap.size + 1 + 1, 5, none⟩ = some (.int .i64 c.group) := cell_of q2 5
    have a6 : w3.cell? ⟨w.heap.size + 1 + 1, 6, none⟩ = some (.int .i64 c.eg) := cell_of q2 6
    have p0 : w3.cell? ⟨w.heap.size + 1 + 1 + 1, 0, none⟩ = some (.int .i64 0) := cell_of q3 0
    have s0 : w3.frozen? ⟨w.heap.size + 1 + 1 + 1, 0, none⟩ = false := frozen_of q3 0
    have p1 : w3.cell? ⟨w.heap.size + 1 + 1 + 1, 1, none⟩ = some (.int .i64 0) := cell_of q3 1
    have s1 : w3.frozen? ⟨w.heap.size + 1 + 1 + 1, 1, none⟩ = false := frozen_of q3 1
    have p2 : w3.cell? ⟨w.heap.size + 1 + 1 + 1, 2, none⟩ = some (.int .i64 0) := cell_of q3 2
    have s2 : w3.frozen? ⟨w.heap.size + 1 + 1 + 1, 2, none⟩ = false := frozen_of q3 2
    have p3 : w3.cell? ⟨w.heap.size + 1 + 1 + 1, 3, none⟩ = some (.int .i64 0) := cell_of q3 3
    have s3 : w3.frozen? ⟨w.heap.size + 1 + 1 + 1, 3, none⟩ = false := frozen_of q3 3
    have p4 : w3.cell? ⟨w.heap.size + 1 + 1 + 1, 4, none⟩ = some (.int .i64 0) := cell_of q3 4
    have s4 : w3.frozen? ⟨w.heap.size + 1 + 1 + 1, 4, none⟩ = false := frozen_of q3 4
    have p5 : w3.cell? ⟨w.heap.size + 1 + 1 + 1, 5, none⟩ = some (.int .i64 0) := cell_of q3 5
    have s5 : w3.frozen? ⟨w.heap.size + 1 + 1 + 1, 5, none⟩ = false := frozen_of q3 5
    have p6 : w3.cell? ⟨w.heap.size + 1 + 1 + 1, 6, none⟩ = some (.int .i64 0) := cell_of q3 6
    have s6 : w3.frozen? ⟨w.heap.size + 1 + 1 + 1, 6, none⟩ = false := frozen_of q3 6
    have p7 : w3.cell? ⟨w.heap.size + 1 + 1 + 1, 7, none⟩ = some (.int .i64 0) := cell_of q3 7
    have s7 : w3.frozen? ⟨w.heap.size + 1 + 1 + 1, 7, none⟩ = false := frozen_of q3 7
    have Q1 := Lib.hid q1
    have Q3 := Lib.hid q3
    clear hb HF hbb q1 q2 q3
    go_wp2_with fail
    refine (HM.out _).mono ?_
    rintro e w5 ⟨rfl, hb5⟩
    have HB4 := Lib.hid (below_set8 (R := w.heap.size + 1 + 1 + 1) (v0 := .int .i64 f0) (v1 := .int .i64 f1) (v2 := .int .i64 f2) (v3 := .int .i64 f3) (v4 := .int .i64 f4) (v5 := .int .i64 f5) (v6 := .int .i64 f6) (v7 := .int .i64 f7) HB.out (by omega))
    have HB5 : Hid (Below w.heap.size w w5) := Lib.hid (HB4.out.trans (hb5.mono HB4.out.size))
    have t3 := (hb5.block (w.heap.size + 1 + 1 + 1) (by simpa [World.setCell] using hlt)).trans (heap_set8 Q3.out)
    have t1 := (hb5.block (w.heap.size + 1) (by simpa [World.setCell] using hlt1)).trans ((heap_set8_other (by omega)).trans Q1.out)
    clear u0 u3 a0 a1 a2 a3 a4 a5 a6 hb5 p0 s0 p1 s1 p2 s2 p3 s3 p4 s4 p5 s5 p6 s6 p7 s7
    cases hmy : mayN q c want with
    | false =>
      have HMY := Lib.hid hmy
      clear hmy t1 t3
      go_wp2
      go_ret2
      refine ⟨0, 4, rfl, Stp.keepB H.out HB5.out ?_⟩
      unfold isOpen
      rw [if_neg (by rw [HO.out]; decide), if_neg (by simp), HG.out, if_neg (fun hh => hh rfl)]
      refine ⟨q, HQ.out, ?_⟩
      rw [if_neg (fun hh => by have := HW.out.symm.trans hh.1; cases this), if_pos HMY.out]
      exact ⟨rfl, rfl, rfl⟩
    | true =>
      have HMY := Lib.hid hmy
      have y0 : w5.cell? ⟨w.heap.size + 1 + 1 + 1, 0, none⟩ = some (.int .i64 f0) := cell_of t3 0
      have T3 := Lib.hid t3
      have T1 := Lib.hid t1
      clear hmy t1 t3
      go_wp2_with fail
      refine (hold_any (H.out.mv ((Mv.refl H.out.rep).below HB5.out)) (HH.out.mono (by decide)) f0).mono ?_
      rintro e w6 ⟨b, rfl, hs⟩
      obtain ⟨S1, T1x, g1, ht1, hr1⟩ := hs.tre fun T' hT' => hT'.sound H.out.snd
      have fr3 : Fr w5 t S (w.heap.size + 1 + 1 + 1) := Fr.new H.out.rep (by omega) (lt_of_heap T3.out)
      have fr1 : Fr w5 t S (w.heap.size + 1) := Fr.new H.out.rep (by omega) (lt_of_heap T1.out)
      have z3 := (fr3.heap g1).trans T3.out
      have z1 := (fr1.heap g1).trans T1.out
      have y0 : w6.cell? ⟨w.heap.size + 1 + 1 + 1, 0, none⟩ = some (.int .i64 f0) := cell_of z3 0
      have y1 : w6.cell? ⟨w.heap.size + 1 + 1 + 1, 1, none⟩ = some (.int .i64 f1) := cell_of z3 1
      have y3 : w6.cell? ⟨w.heap.size + 1, 3, none⟩ = some (.bool empty) := cell_of z1 3
      have HG1 := Lib.hid (((Mv.refl H.out.rep).below HB5.out).trans g1)
      have HT1 := Lib.hid ht1
      have HR1 := Lib.hid hr1
      clear hs g1 ht1 hr1 fr3 fr1 z3 z1
      cases empty <;>
      · go_wp2
        go_ret2
        refine ⟨k0, 0, by rw [HD.out.1]; rfl, S1, T1x, HG1.out, HT1.out.ties, ?_⟩
        show isOpen _ _ _ _ _ _ _ _
        unfold isOpen
        rw [if_neg (by rw [HO.out]; decide), if_neg (by simp), HG.out, if_neg (fun hh => hh rfl)]
        refine ⟨q, HQ.out, ?_⟩
        rw [if_neg (fun hh => by have := HW.out.symm.trans hh.1; cases this), if_neg (by rw [HMY.out]; decide)]
        refine ⟨rfl, rfl, b, T1x, ?_, ?_⟩
        · have := HR1.out
          rw [← HD.out.1] at this
          exact this
        · rw [if_neg (fun hh => by have := HW.out.symm.trans hh.2.1; cases this)]
  | true =>
    have HW := Lib.hid hw
    by_cases hk : q.kind = 1
    · have HK := Lib.hid hk
      obtain rfl : f1 = 1 := HD.out.2.1.symm.trans hk
      clear hk HM
      go_enter Try.func15, Try.ntmps15
      go_wp2_with fail
      refine (HR.out _).mono ?_
      rintro e w2 ⟨rfl, rfl⟩
      go_wp2_with fail
      refine (HF.out _ (belowA (belowA (belowA (belowA (Below.refl _ _) _) _) _) _)).mono ?_
      rintro e w3 ⟨rfl, hb⟩
      obtain ⟨_, q1, q2, q3, hlt, hbb⟩ := four_blocks hb
      have HB := Lib.hid hbb
      have hlt1 : w.heap.size + 1 < w3.heap.size := by omega
      have hlt2 : w.heap.size + 1 + 1 < w3.heap.size := by omega
      have u0 : w3.cell? ⟨w.heap.size + 1, 0, none⟩ = some (.int .i64 want) := cell_of q1 0
      have u3 : w3.cell? ⟨w.heap.size + 1, 3, none⟩ = some (.bool empty) := cell_of q1 3
      have a0 : w3.cell? ⟨w.heap.size + 1 + 1, 0, none⟩ = some (.pointer (some ⟨t, 0, none⟩)) := cell_of q2 0
      have a1 : w3.cell? ⟨w.heap.size + 1 + 1, 1, none⟩ = some (.int .i64 cwd) := cell_of q2 1
      have a2 : w3.cell? ⟨w.heap.size + 1 + 1, 2, none⟩ = some (.int .i64 c.real) := cell_of q2 2
      have a3 : w3.cell? ⟨w.heap.size + 1 + 1, 3, none⟩ = some (.int .i64 c.eff) := cell_of q2 3
      have a4 : w3.cell? ⟨w.heap.size + 1 + 1, 4, none⟩ = some (.int .i64 c.saved) := cell_of q2 4
      have a5 : w3.cell? ⟨w.heap.size + 1 + 1, 5, none⟩ = some (.int .i64 c.group) := cell_of q2 5
      have a6 : w3.cell? ⟨w.heap.size + 1 + 1, 6, none⟩ = some (.int .i64 c.eg) := cell_of q2 6
      have p0 : w3.cell? ⟨w.heap.size + 1 + 1 + 1, 0, none⟩ = some (.int .i64 0) := cell_of q3 0
      have s0 : w3.frozen? ⟨w.heap.size + 1 + 1 + 1, 0, none⟩ = false := frozen_of q3 0
      have p1 : w3.cell? ⟨w.heap.size + 1 + 1 + 1, 1, none⟩ = some (.int .i64 0) := cell_of q3 1
      have s1 : w3.frozen? ⟨w.heap.size + 1 + 1 + 1, 1, none⟩ = false := frozen_of q3 1
      have p2 : w3.cell? ⟨w.heap.size + 1 + 1 + 1, 2, none⟩ = some (.int .i64 0) := cell_of q3 2
      have s2 : w3.frozen? ⟨w.heap.size + 1 + 1 + 1, 2, none⟩ = false := frozen_of q3 2
      have p3 : w3.cell? ⟨w.heap.size + 1 + 1 + 1, 3, none⟩ = some (.int .i64 0) := cell_of q3 3
      have s3 : w3.frozen? ⟨w.heap.size + 1 + 1 + 1, 3, none⟩ = false := frozen_of q3 3
      have p4 : w3.cell? ⟨w.heap.size + 1 + 1 + 1, 4, none⟩ = some (.int .i64 0) := cell_of q3 4
      have s4 : w3.frozen? ⟨w.heap.size + 1 + 1 + 1, 4, none⟩ = false := frozen_of q3 4
      have p5 : w3.cell? ⟨w.heap.size + 1 + 1 + 1, 5, none⟩ = some (.int .i64 0) := cell_of q3 5
      have s5 : w3.frozen? ⟨w.heap.size + 1 + 1 + 1, 5, none⟩ = false := frozen_of q3 5
      have p6 : w3.cell? ⟨w.heap.size + 1 + 1 + 1, 6, none⟩ = some (.int .i64 0) := cell_of q3 6
      have s6 : w3.frozen? ⟨w.heap.size + 1 + 1 + 1, 6, none⟩ = false := frozen_of q3 6
      have p7 : w3.cell? ⟨w.heap.size + 1 + 1 + 1, 7, none⟩ = some (.int .i64 0) := cell_of q3 7
      have s7 : w3.frozen? ⟨w.heap.size + 1 + 1 + 1, 7, none⟩ = false := frozen_of q3 7
      clear hb HF hbb q1 q2 q3
      go_wp2
      go_ret2
      refine ⟨0, 7, rfl, Stp.keepB H.out (below_set8 HB.out (by omega)) ?_⟩
      unfold isOpen
      rw [if_neg (by rw [HO.out]; decide), if_neg (by simp), HG.out, if_neg (fun hh => hh rfl)]
      refine ⟨q, HQ.out, ?_⟩
      rw [if_pos ⟨HW.out, HK.out⟩]
      exact ⟨rfl, rfl, rfl⟩
    · have HK := Lib.hid hk
      have hz1 : (f1 == 1) = false := by have := HD.out.2.1; rw [this] at hk; simpa using hk
      clear hk
      go_enter Try.func15, Try.ntmps15
      go_wp2_with fail
      refine (HR.out _).mono ?_
      rintro e w2 ⟨rfl, rfl⟩
      go_wp2_with fail
      refine (HF.out _ (belowA (belowA (belowA (belowA (Below.refl _ _) _) _) _) _)).mono ?_
      rintro e w3 ⟨rfl, hb⟩
      obtain ⟨_, q1, q2, q3, hlt, hbb⟩ := four_blocks hb
      have HB := Lib.hid hbb
      have hlt1 : w.heap.size + 1 < w3.heap.size := by omega
      have hlt2 : w.heap.size + 1 + 1 < w3.heap.size := by omega
      have u0 : w3.cell? ⟨w.heap.size + 1, 0, none⟩ = some (.int .i64 want) := cell_of q1 0
      have u3 : w3.cell? ⟨w.heap.size + 1, 3, none⟩ = some (.bool empty) := cell_of q1 3
      have a0 : w3.cell? ⟨w.heap.size + 1 + 1, 0, none⟩ = some (.pointer (some ⟨t, 0, none⟩)) := cell_of q2 0
      have a1 : w3.cell? ⟨w.heap.size + 1 + 1, 1, none⟩ = some (.int .i64 cwd) := cell_of q2 1
      have a2 : w3.cell? ⟨w.heap.size + 1 + 1, 2, none⟩ = some (.int .i64 c.real) := cell_of q2 2
      have a3 : w3.cell? ⟨w.heap.size + 1 + 1, 3, none⟩ = some (.int .i64 c.eff) := cell_of q2 3
      have a4 : w3.cell? ⟨w.heap.size + 1 + 1, 4, none⟩ = some (.int .i64 c.saved) := cell_of q2 4
      have a5 : w3.cell? ⟨w.heap.size + 1 + 1, 5, none⟩ = some (.int .i64 c.group) := cell_of q2 5
      have a6 : w3.cell? ⟨w.heap.size + 1 + 1, 6, none⟩ = some (.int .i64 c.eg) := cell_of q2 6
      have p0 : w3.cell? ⟨w.heap.size + 1 + 1 + 1, 0, none⟩ = some (.int .i64 0) := cell_of q3 0
      have s0 : w3.frozen? ⟨w.heap.size + 1 + 1 + 1, 0, none⟩ = false := frozen_of q3 0
      have p1 : w3.cell? ⟨w.heap.size + 1 + 1 + 1, 1, none⟩ = some (.int .i64 0) := cell_of q3 1
      have s1 : w3.frozen? ⟨w.heap.size + 1 + 1 + 1, 1, none⟩ = false := frozen_of q3 1
      have p2 : w3.cell? ⟨w.heap.size + 1 + 1 + 1, 2, none⟩ = some (.int .i64 0) := cell_of q3 2
      have s2 : w3.frozen? ⟨w.heap.size + 1 + 1 + 1, 2, none⟩ = false := frozen_of q3 2
      have p3 : w3.cell? ⟨w.heap.size + 1 + 1 + 1, 3, none⟩ = some (.int .i64 0) := cell_of q3 3
      have s3 : w3.frozen? ⟨w.heap.size + 1 + 1 + 1, 3, none⟩ = false := frozen_of q3 3
      have p4 : w3.cell? ⟨w.heap.size + 1 + 1 + 1, 4, none⟩ = some (.int .i64 0) := cell_of q3 4
      have s4 : w3.frozen? ⟨w.heap.size + 1 + 1 + 1, 4, none⟩ = false := frozen_of q3 4
      have p5 : w3.cell? ⟨w.heap.size + 1 + 1 + 1, 5, none⟩ = some (.int .i64 0) := cell_of q3 5
      have s5 : w3.frozen? ⟨w.heap.size + 1 + 1 + 1, 5, none⟩ = false := frozen_of q3 5
      have p6 : w3.cell? ⟨w.heap.size + 1 + 1 + 1, 6, none⟩ = some (.int .i64 0) := cell_of q3 6
      have s6 : w3.frozen? ⟨w.heap.size + 1 + 1 + 1, 6, none⟩ = false := frozen_of q3 6
      have p7 : w3.cell? ⟨w.heap.size + 1 + 1 + 1, 7, none⟩ = some (.int .i64 0) := cell_of q3 7
      have s7 : w3.frozen? ⟨w.heap.size + 1 + 1 + 1, 7, none⟩ = false := frozen_of q3 7
      have Q1 := Lib.hid q1
      have Q3 := Lib.hid q3
      clear hb HF hbb q1 q2 q3
      go_wp2_with fail
      refine (HM.out _).mono ?_
      rintro e w5 ⟨rfl, hb5⟩
      have HB4 := Lib.hid (below_set8 (R := w.heap.size + 1 + 1 + 1) (v0 := .int .i64 f0) (v1 := .int .i64 f1) (v2 := .int .i64 f2) (v3 := .int .i64 f3) (v4 := .int .i64 f4) (v5 := .int .i64 f5) (v6 := .int .i64 f6) (v7 := .int .i64 f7) HB.out (by omega))
      have HB5 : Hid (Below w.heap.size w w5) := Lib.hid (HB4.out.trans (hb5.mono HB4.out.size))
      have t3 := (hb5.block (w.heap.size + 1 + 1 + 1) (by simpa [World.setCell] using hlt)).trans (heap_set8 Q3.out)
      have t1 := (hb5.block (w.heap.size + 1) (by simpa [World.setCell] using hlt1)).trans ((heap_set8_other (by omega)).trans Q1.out)
      clear u0 u3 a0 a1 a2 a3 a4 a5 a6 hb5 p0 s0 p1 s1 p2 s2 p3 s3 p4 s4 p5 s5 p6 s6 p7 s7
      cases hmy : mayN q c want with
      | false =>
        have HMY := Lib.hid hmy
        clear hmy t1 t3
        go_wp2
        go_ret2
        refine ⟨0, 4, rfl, Stp.keepB H.out HB5.out ?_⟩
        unfold isOpen
        rw [if_neg (by rw [HO.out]; decide), if_neg (by simp), HG.out, if_neg (fun hh => hh rfl)]
        refine ⟨q, HQ.out, ?_⟩
        rw [if_neg (fun hh => HK.out hh.2), if_pos HMY.out]
        exact ⟨rfl, rfl, rfl⟩
      | true =>
        have HMY := Lib.hid hmy
        have y0 : w5.cell? ⟨w.heap.size + 1 + 1 + 1, 0, none⟩ = some (.int .i64 f0) := cell_of t3 0
        have T3 := Lib.hid t3
        have T1 := Lib.hid t1
        clear hmy t1 t3
        go_wp2_with fail
        refine (hold_any (H.out.mv ((Mv.refl H.out.rep).below HB5.out)) (HH.out.mono (by decide)) f0).mono ?_
        rintro e w6 ⟨b, rfl, hs⟩
        obtain ⟨S1, T1x, g1, ht1, hr1⟩ := hs.tre fun T' hT' => hT'.sound H.out.snd
        have fr3 : Fr w5 t S (w.heap.size + 1 + 1 + 1) := Fr.new H.out.rep (by omega) (lt_of_heap T3.out)
        have fr1 : Fr w5 t S (w.heap.size + 1) := Fr.new H.out.rep (by omega) (lt_of_heap T1.out)
        have z3 := (fr3.heap g1).trans T3.out
        have z1 := (fr1.heap g1).trans T1.out
        have y0 : w6.cell? ⟨w.heap.size + 1 + 1 + 1, 0, none⟩ = some (.int .i64 f0) := cell_of z3 0
        have y1 : w6.cell? ⟨w.heap.size + 1 + 1 + 1, 1, none⟩ = some (.int .i64 f1) := cell_of z3 1
        have y3 : w6.cell? ⟨w.heap.size + 1, 3, none⟩ = some (.bool empty) := cell_of z1 3
        have HG1 := Lib.hid (((Mv.refl H.out.rep).below HB5.out).trans g1)
        have HT1 := Lib.hid ht1
        have HR1 := Lib.hid hr1
        have FR3 := Lib.hid fr3
        have g1x := Lib.hid g1
        have Z3 := Lib.hid z3
        clear hs g1 ht1 hr1 fr3 fr1 z3 z1
        have leaf : ∀ (T' : IT.Tr), (if empty = true ∧ (bits BinOp.and .i64 want 2 != 0) = true ∧ q.kind = 0 then ∃ r2 T2, IT.isCut T1x k0 r2 T2 ∧ isPlainer T2 k0 T' else T' = T1x) → isOpen T c cwd (bs s) ⟨want, false, alone, empty, fin, mode⟩ k0 0 T' := fun T' hl => by
          unfold isOpen
          rw [if_neg (by rw [HO.out]; decide), if_neg (by simp), HG.out, if_neg (fun hh => hh rfl)]
          refine ⟨q, HQ.out, ?_⟩
          rw [if_neg (fun hh => HK.out hh.2), if_neg (by rw [HMY.out]; decide)]
          refine ⟨rfl, rfl, b, T1x, ?_, hl⟩
          have := HR1.out
          rw [← HD.out.1] at this
          exact this
        have HL := Lib.hid leaf
        clear leaf
        cases empty with
        | false =>
          go_wp2
          go_ret2
          exact ⟨k0, 0, by rw [HD.out.1]; rfl, S1, T1x, HG1.out, HT1.out.ties, HL.out _ (by rw [if_neg (fun hh => by cases hh.1)])⟩
        | true =>
          by_cases hk0 : q.kind = 0
          · have hz0 : (f1 == 0) = true := by have := HD.out.2.1; simpa using (this.symm.trans hk0)
            have HK0 := Lib.hid hk0
            clear hk0
            go_wp2_with fail
            refine (cut_any HT1.out f0).mono ?_
            rintro e w7 ⟨r2, rfl, hs⟩
            obtain ⟨S2, T2x, g2, ht2, hr2⟩ := hs.tre fun T' hT' => hT'.sound HT1.out.snd
            have fr4 : Fr w6 t S1 (w.heap.size + 1 + 1 + 1) := (FR3.out).mv g1x.out
            have z4 := (fr4.heap g2).trans Z3.out
            have v0 : w7.cell? ⟨w.heap.size + 1 + 1 + 1, 0, none⟩ = some (.int .i64 f0) := cell_of z4 0
            have HG2 := Lib.hid (HG1.out.trans g2)
            have HT2 := Lib.hid ht2
            have HR2 := Lib.hid hr2
            have FR5 := Lib.hid (fr4.mv g2)
            have Z4 := Lib.hid z4
            clear hs g2 ht2 hr2 fr4 z4
            go_wp2_with fail
            refine (plainer_any HT2.out f0).mono ?_
            rintro e w8 ⟨rfl, hs⟩
            have HS := Lib.hid (Stp.pre HG2.out hs)
            obtain ⟨S3, T3x, g3, ht3, hr3⟩ := hs.tre fun T' hT' => isPlainer.sound hT' HT2.out.snd
            have z5 := (FR5.out.heap g3).trans Z4.out
            have v0 : w8.cell? ⟨w.heap.size + 1 + 1 + 1, 0, none⟩ = some (.int .i64 f0) := cell_of z5 0
            clear hs g3 ht3 hr3 z5
            go_wp2
            go_ret2
            refine ⟨k0, 0, by rw [HD.out.1]; rfl, HS.out.imp fun T' hT' => HL.out T' ?_⟩
            rw [if_pos (by exact ⟨by trivial, HW.out, HK0.out⟩)]
            refine ⟨r2, T2x, ?_, ?_⟩
            · have := HR2.out
              rw [← HD.out.1] at this
              exact this
            · rw [← HD.out.1] at hT'
              exact hT'
          · have hz0 : (f1 == 0) = false := by have := HD.out.2.1; rw [this] at hk0; simpa using hk0
            have HK0 := Lib.hid hk0
            clear hk0
            go_wp2
            go_ret2
            exact ⟨k0, 0, by rw [HD.out.1]; rfl, S1, T1x, HG1.out, HT1.out.ties, HL.out _ (by rw [if_neg (fun hh => HK0.out hh.2.2)])⟩
end Go.Proofs.Ytafonmnfeibaiaa
namespace Go.Proofs.Ytafonmnfeibaiaa
open Go.RowKit

/-! ### walk: Open, made if it is not there -/
set_option maxRecDepth 100000 in
set_option maxHeartbeats 8000000 in
theorem wopen_err {w : World} {t : Nat} {S : Tab} {T : IT.Tr} (h : Tre w t S T) (hh : HB T 999999) (cwd : Int) (c : Cr) (s : ByteArray) (o : Ho) (ho : openB o = true) (hmk : o.make = true) {r0 : Int} (he : entryT T c cwd (bs s) = .error r0) :
    Calls Try.prog 15 #[.pointer (some ⟨t, 0, none⟩), .int .i64 cwd, cred c, .string s, howV o] w fun e w' => ∃ (i : Nat) (r : Int), e = .returned (.tuple #[.int .i64 i, .int .i64 r]) ∧ Stp w t S (fun T' => isOpen T c cwd (bs s) o i r T') w' := by
  have H := Lib.hid h
  have HH := Lib.hid hh
  have HO := Lib.hid ho
  have HE := Lib.hid he
  obtain ⟨want, make, alone, empty, fin, mode⟩ := o
  dsimp only at hmk
  subst hmk
  have h123 : (bits BinOp.andNot .i64 want 6 == 0) = true ∧ (want == 0) = false ∧ Md.rightB mode = true := by
    unfold openB at ho
    simpa using ho
  obtain ⟨h1, h2, h3⟩ := h123
  have e1 : (bits BinOp.andNot .i64 want 6 != 0) = false := by rw [bne, h1]; rfl
  have HR : Hid (∀ W', Calls Try.prog 36 #[.int .i64 mode] W' fun e w' => e = .returned (.bool true) ∧ w' = W') := Lib.hid (fun W' => by
    have := Md.right_any mode W'; rw [h3] at this; exact this)
  clear h1 h3
  have hz1 : (r0 != 0) = true := by simpa using entry_ne he
  obtain ⟨C, hC⟩ : ∃ C, C = zeroE := ⟨_, rfl⟩
  have HC := Lib.hid (wentry_bad h cwd c s he)
  rw [← hC] at HC
  have HCS : Hid (C.size = 19) := Lib.hid (by rw [hC]; rfl)
  have HC1 : Hid (C.all (·.oneCell') = true) := Lib.hid (by rw [hC]; exact zeroE_one)
  have HCX9 : Hid (C[9]? = some (.bool false)) := Lib.hid (by rw [hC]; rfl)
  have HCX18 : Hid (C[18]? = some (.bool false)) := Lib.hid (by rw [hC]; rfl)
  clear h hh ho he hC
  unfold cred howV
  unfold ask at HC
  go_enter Try.func15, Try.ntmps15
  go_wp2_with fail
  refine (HR.out _).mono ?_
  rintro e w2 ⟨rfl, rfl⟩
  go_wp2_with fail
  refine (HC.out _ (belowA (belowA (belowA (belowA (Below.refl _ _) _) _) _) _)).mono ?_
  rintro e w3 ⟨rfl, hb⟩
  obtain ⟨_, q1, q2, q3, hlt, hbb⟩ := four_blocks hb
  have HB := Lib.hid hbb
  have hlt1 : w.heap.size + 1 < w3.heap.size := by omega
  have hlt2 : w.heap.size + 1 + 1 < w3.heap.size := by omega
  clear hb hbb HC HR
  clear q2 q3
  obtain ⟨s1, s2, s3⟩ := stored_whole (w3 := w3) (Z := #[.int .i64 0, .int .i64 0, .int .i64 0, .int .i64 0, .int .i64 0, .int .i64 0, .int .i64 0, .int .i64 0, .string ⟨#[]⟩, .bool false, .int .i64 0, .int .i64 0, .int .i64 0, .int .i64 0, .int .i64 0, .int .i64 0, .int .i64 0, .int .i64 0, .bool false]) (C := C) (TY := 77) HCS.out
  have hT : (w3.alloc (.cells #[.int .i64 0, .int .i64 0, .int .i64 0, .int .i64 0, .int .i64 0, .int .i64 0, .int .i64 0, .int .i64 0, .string ⟨#[]⟩, .bool false, .int .i64 0, .int .i64 0, .int .i64 0, .int .i64 0, .int .i64 0, .int .i64 0, .int .i64 0, .int .i64 0, .bool false] 77)).there w3.heap.size 0 C.size := by rw [HCS.out]; exact there_of (alloc_heap w3 _)
  have hI : (Try.prog.info? 77).map (·.size) = some C.size := by rw [HCS.out]; rfl
  have h1C := HC1.out
  have x9 : (World.setCells (w3.alloc (.cells #[.int .i64 0, .int .i64 0, .int .i64 0, .int .i64 0, .int .i64 0, .int .i64 0, .int .i64 0, .int .i64 0, .string ⟨#[]⟩, .bool false, .int .i64 0, .int .i64 0, .int .i64 0, .int .i64 0, .int .i64 0, .int .i64 0, .int .i64 0, .int .i64 0, .bool false] 77)) w3.heap.size 0 C.toList).cell? ⟨w3.heap.size, 9, none⟩ = some (.bool false) := (cell_of s1 9).trans HCX9.out
  have x18 : (World.setCells (w3.alloc (.cells #[.int .i64 0, .int .i64 0, .int .i64 0, .int .i64 0, .int .i64 0, .int .i64 0, .int .i64 0, .int .i64 0, .string ⟨#[]⟩, .bool false, .int .i64 0, .int .i64 0, .int .i64 0, .int .i64 0, .int .i64 0, .int .i64 0, .int .i64 0, .int .i64 0, .bool false] 77)) w3.heap.size 0 C.toList).cell? ⟨w3.heap.size, 18, none⟩ = some (.bool false) := (cell_of s1 18).trans HCX18.out
  have huB := (s2.block _ hlt1).trans q1
  have huL : w.heap.size + 1 < (World.setCells (w3.alloc (.cells #[.int .i64 0, .int .i64 0, .int .i64 0, .int .i64 0, .int .i64 0, .int .i64 0, .int .i64 0, .int .i64 0, .string ⟨#[]⟩, .bool false, .int .i64 0, .int .i64 0, .int .i64 0, .int .i64 0, .int .i64 0, .int .i64 0, .int .i64 0, .int .i64 0, .bool false] 77)) w3.heap.size 0 C.toList).heap.size := by have := hlt1; omega
  have u2 : (World.setCells (w3.alloc (.cells #[.int .i64 0, .int .i64 0, .int .i64 0, .int .i64 0, .int .i64 0, .int .i64 0, .int .i64 0, .int .i64 0, .string ⟨#[]⟩, .bool false, .int .i64 0, .int .i64 0, .int .i64 0, .int .i64 0, .int .i64 0, .int .i64 0, .int .i64 0, .int .i64 0, .bool false] 77)) w3.heap.size 0 C.toList).cell? ⟨w.heap.size + 1, 2, none⟩ = some (.bool alone) := cell_of huB 2
  clear q1
  go_wp2_with (refine wpList_store_mid rfl 77 _ _ rfl w3.heap.size 0 C rfl rfl hT hI h1C ?_; generalize World.setCells (w3.alloc (.cells #[.int .i64 0, .int .i64 0, .int .i64 0, .int .i64 0, .int .i64 0, .int .i64 0, .int .i64 0, .int .i64 0, .string ⟨#[]⟩, .bool false, .int .i64 0, .int .i64 0, .int .i64 0, .int .i64 0, .int .i64 0, .int .i64 0, .int .i64 0, .int .i64 0, .bool false] 77)) w3.heap.size 0 C.toList = W5 at s1 s2 s3 x9 x18 huB huL u2 ⊢)
  go_ret2
  refine ⟨0, r0, rfl, Stp.keepB H.out (HB.out.trans (s2.mono HB.out.size)) ?_⟩
  unfold isOpen
  rw [if_neg (by rw [HO.out]; decide), if_pos rfl, HE.out]
  exact ⟨rfl, rfl, rfl⟩
set_option maxRecDepth 100000 in
set_option maxHeartbeats 8000000 in
theorem wopen_is {w : World} {t : Nat} {S : Tab} {T : IT.Tr} (h : Tre w t S T) (hh : HB T 999999) (cwd : Int) (c : Cr) (s : ByteArray) (o : Ho) (ho : openB o = true) (hmk : o.make = true) {k j : Nat} {nm : IT.Bytes} {must : Bool} {m q : IT.Nd} (he : entryT T c cwd (bs s) = .ok ⟨k, nm, must, some j⟩) (hm : T k = some m) (hq : T j = some q) (hal : o.alone = true) :
    Calls Try.prog 15 #[.pointer (some ⟨t, 0, none⟩), .int .i64 cwd, cred c, .string s, howV o] w fun e w' => ∃ (i : Nat) (r : Int), e = .returned (.tuple #[.int .i64 i, .int .i64 r]) ∧ Stp w t S (fun T' => isOpen T c cwd (bs s) o i r T') w' := by
  have H := Lib.hid h
  have HH := Lib.hid hh
  have HO := Lib.hid ho
  have HE := Lib.hid he
  obtain ⟨want, make, alone, empty, fin, mode⟩ := o
  dsimp only at hmk
  subst hmk
  have h123 : (bits BinOp.andNot .i64 want 6 == 0) = true ∧ (want == 0) = false ∧ Md.rightB mode = true := by
    unfold openB at ho
    simpa using ho
  obtain ⟨h1, h2, h3⟩ := h123
  have e1 : (bits BinOp.andNot .i64 want 6 != 0) = false := by rw [bne, h1]; rfl
  have HR : Hid (∀ W', Calls Try.prog 36 #[.int .i64 mode] W' fun e w' => e = .returned (.bool true) ∧ w' = W') := Lib.hid (fun W' => by
    have := Md.right_any mode W'; rw [h3] at this; exact this)
  clear h1 h3
  obtain ⟨d0, d1, d2, d3, d4, d5, d6, d7, g0, g1, g2, g3, g4, g5, g6, g7, _, hgd, hc⟩ := wentry_some h cwd c s he hm hq
  obtain ⟨C, hC⟩ : ∃ C, C = entG d0 d1 d2 d3 d4 d5 d6 d7 (tx nm) must g0 g1 g2 g3 g4 g5 g6 g7 true := ⟨_, rfl⟩
  rw [← hC] at hc
  have HC := Lib.hid hc
  have HD := Lib.hid (infC_inj hgd)
  have HQ := Lib.hid hq
  clear hc hgd
  dsimp only at hal
  subst hal
  clear hm hq
  have HCS : Hid (C.size = 19) := Lib.hid (by rw [hC]; rfl)
  have HC1 : Hid (C.all (·.oneCell') = true) := Lib.hid (by rw [hC]; exact entG_one)
  have HCX9 : Hid (C[9]? = some (.bool must)) := Lib.hid (by rw [hC]; rfl)
  have HCX18 : Hid (C[18]? = some (.bool true)) := Lib.hid (by rw [hC]; rfl)
  clear h hh ho he hC
  unfold cred howV
  unfold ask at HC
  go_enter Try.func15, Try.ntmps15
  go_wp2_with fail
  refine (HR.out _).mono ?_
  rintro e w2 ⟨rfl, rfl⟩
  go_wp2_with fail
  refine (HC.out _ (belowA (belowA (belowA (belowA (Below.refl _ _) _) _) _) _)).mono ?_
  rintro e w3 ⟨rfl, hb⟩
  obtain ⟨_, q1, q2, q3, hlt, hbb⟩ := four_blocks hb
  have HB := Lib.hid hbb
  have hlt1 : w.heap.size + 1 < w3.heap.size := by omega
  have hlt2 : w.heap.size + 1 + 1 < w3.heap.size := by omega
  clear hb hbb HC HR
  clear q2 q3
  obtain ⟨s1, s2, s3⟩ := stored_whole (w3 := w3) (Z := #[.int .i64 0, .int .i64 0, .int .i64 0, .int .i64 0, .int .i64 0, .int .i64 0, .int .i64 0, .int .i64 0, .string ⟨#[]⟩, .bool false, .int .i64 0, .int .i64 0, .int .i64 0, .int .i64 0, .int .i64 0, .int .i64 0, .int .i64 0, .int .i64 0, .bool false]) (C := C) (TY := 77) HCS.out
  have hT : (w3.alloc (.cells #[.int .i64 0, .int .i64 0, .int .i64 0, .int .i64 0, .int .i64 0, .int .i64 0, .int .i64 0, .int .i64 0, .string ⟨#[]⟩, .bool false, .int .i64 0, .int .i64 0, .int .i64 0, .int .i64 0, .int .i64 0, .int .i64 0, .int .i64 0, .int .i64 0, .bool false] 77)).there w3.heap.size 0 C.size := by rw [HCS.out]; exact there_of (alloc_heap w3 _)
  have hI : (Try.prog.info? 77).map (·.size) = some C.size := by rw [HCS.out]; rfl
  have h1C := HC1.out
  have x9 : (World.setCells (w3.alloc (.cells #[.int .i64 0, .int .i64 0, .int .i64 0, .int .i64 0, .int .i64 0, .int .i64 0, .int .i64 0, .int .i64 0, .string ⟨#[]⟩, .bool false, .int .i64 0, .int .i64 0, .int .i64 0, .int .i64 0, .int .i64 0, .int .i64 0, .int .i64 0, .int .i64 0, .bool false] 77)) w3.heap.size 0 C.toList).cell? ⟨w3.heap.size, 9, none⟩ = some (.bool must) := (cell_of s1 9).trans HCX9.out
  have x18 : (World.setCells (w3.alloc (.cells #[.int .i64 0, .int .i64 0, .int .i64 0, .int .i64 0, .int .i64 0, .int .i64 0, .int .i64 0, .int .i64 0, .string ⟨#[]⟩, .bool false, .int .i64 0, .int .i64 0, .int .i64 0, .int .i64 0, .int .i64 0, .int .i64 0, .int .i64 0, .int .i64 0, .bool false] 77)) w3.heap.size 0 C.toList).cell? ⟨w3.heap.size, 18, none⟩ = some (.bool true) := (cell_of s1 18).trans HCX18.out
  have huB := (s2.block _ hlt1).trans q1
  have huL : w.heap.size + 1 < (World.setCells (w3.alloc (.cells #[.int .i64 0, .int .i64 0, .int .i64 0, .int .i64 0, .int .i64 0, .int .i64 0, .int .i64 0, .int .i64 0, .string ⟨#[]⟩, .bool false, .int .i64 0, .int .i64 0, .int .i64 0, .int .i64 0, .int .i64 0, .int .i64 0, .int .i64 0, .int .i64 0, .bool false] 77)) w3.heap.size 0 C.toList).heap.size := by have := hlt1; omega
  have u2 : (World.setCells (w3.alloc (.cells #[.int .i64 0, .int .i64 0, .int .i64 0, .int .i64 0, .int .i64 0, .int .i64 0, .int .i64 0, .int .i64 0, .string ⟨#[]⟩, .bool false, .int .i64 0, .int .i64 0, .int .i64 0, .int .i64 0, .int .i64 0, .int .i64 0, .int .i64 0, .int .i64 0, .bool false] 77)) w3.heap.size 0 C.toList).cell? ⟨w.heap.size + 1, 2, none⟩ = some (.bool true) := cell_of huB 2
  clear q1
  go_wp2_with (refine wpList_store_mid rfl 77 _ _ rfl w3.heap.size 0 C rfl rfl hT hI h1C ?_; generalize World.setCells (w3.alloc (.cells #[.int .i64 0, .int .i64 0, .int .i64 0, .int .i64 0, .int .i64 0, .int .i64 0, .int .i64 0, .int .i64 0, .string ⟨#[]⟩, .bool false, .int .i64 0, .int .i64 0, .int .i64 0, .int .i64 0, .int .i64 0, .int .i64 0, .int .i64 0, .int .i64 0, .bool false] 77)) w3.heap.size 0 C.toList = W5 at s1 s2 s3 x9 x18 huB huL u2 ⊢)
  go_ret2
  refine ⟨0, 5, rfl, Stp.keepB H.out (HB.out.trans (s2.mono HB.out.size)) ?_⟩
  unfold isOpen
  rw [if_neg (by rw [HO.out]; decide), if_pos rfl, HE.out]
  exact ⟨rfl, rfl, rfl⟩
set_option maxRecDepth 100000 in
set_option maxHeartbeats 8000000 in
theorem wopen_must6 {w : World} {t : Nat} {S : Tab} {T : IT.Tr} (h : Tre w t S T) (hh : HB T 999999) (cwd : Int) (c : Cr) (s : ByteArray) (o : Ho) (ho : openB o = true) (hmk : o.make = true) {k j : Nat} {nm : IT.Bytes} {m q : IT.Nd} (he : entryT T c cwd (bs s) = .ok ⟨k, nm, true, some j⟩) (hm : T k = some m) (hq : T j = some q) (hal : o.alone = false) (hk : q.kind ≠ 1) :
    Calls Try.prog 15 #[.pointer (some ⟨t, 0, none⟩), .int .i64 cwd, cred c, .string s, howV o] w fun e w' => ∃ (i : Nat) (r : Int), e = .returned (.tuple #[.int .i64 i, .int .i64 r]) ∧ Stp w t S (fun T' => isOpen T c cwd (bs s) o i r T') w' := by
  have H := Lib.hid h
  have HH := Lib.hid hh
  have HO := Lib.hid ho
  have HE := Lib.hid he
  obtain ⟨want, make, alone, empty, fin, mode⟩ := o
  dsimp only at hmk
  subst hmk
  have h123 : (bits BinOp.andNot .i64 want 6 == 0) = true ∧ (want == 0) = false ∧ Md.rightB mode = true := by
    unfold openB at ho
    simpa using ho
  obtain ⟨h1, h2, h3⟩ := h123
  have e1 : (bits BinOp.andNot .i64 want 6 != 0) = false := by rw [bne, h1]; rfl
  have HR : Hid (∀ W', Calls Try.prog 36 #[.int .i64 mode] W' fun e w' => e = .returned (.bool true) ∧ w' = W') := Lib.hid (fun W' => by
    have := Md.right_any mode W'; rw [h3] at this; exact this)
  clear h1 h3
  obtain ⟨d0, d1, d2, d3, d4, d5, d6, d7, g0, g1, g2, g3, g4, g5, g6, g7, _, hgd, hc⟩ := wentry_some h cwd c s he hm hq
  obtain ⟨C, hC⟩ : ∃ C, C = entG d0 d1 d2 d3 d4 d5 d6 d7 (tx nm) true g0 g1 g2 g3 g4 g5 g6 g7 true := ⟨_, rfl⟩
  rw [← hC] at hc
  have HC := Lib.hid hc
  have HD := Lib.hid (infC_inj hgd)
  have HQ := Lib.hid hq
  clear hc hgd
  dsimp only at hal
  subst hal
  have hx1 : (g1 == 1) = false := by have := HD.out.2.1; rw [this] at hk; simpa using hk
  have hx2 : (g1 != 1) = true := by rw [bne, hx1]; rfl
  have HK := Lib.hid hk
  clear hm hq hk
  have HCS : Hid (C.size = 19) := Lib.hid (by rw [hC]; rfl)
  have HC1 : Hid (C.all (·.oneCell') = true) := Lib.hid (by rw [hC]; exact entG_one)
  have HCX9 : Hid (C[9]? = some (.bool true)) := Lib.hid (by rw [hC]; rfl)
  have HCX11 : Hid (C[11]? = some (.int .i64 g1)) := Lib.hid (by rw [hC]; rfl)
  have HCX18 : Hid (C[18]? = some (.bool true)) := Lib.hid (by rw [hC]; rfl)
  clear h hh ho he hC
  unfold cred howV
  unfold ask at HC
  go_enter Try.func15, Try.ntmps15
  go_wp2_with fail
  refine (HR.out _).mono ?_
  rintro e w2 ⟨rfl, rfl⟩
  go_wp2_with fail
  refine (HC.out _ (belowA (belowA (belowA (belowA (Below.refl _ _) _) _) _) _)).mono ?_
  rintro e w3 ⟨rfl, hb⟩
  obtain ⟨_, q1, q2, q3, hlt, hbb⟩ := four_blocks hb
  have HB := Lib.hid hbb
  have hlt1 : w.heap.size + 1 < w3.heap.size := by omega
  have hlt2 : w.heap.size + 1 + 1 < w3.heap.size := by omega
  clear hb hbb HC HR
  clear q2 q3
  obtain ⟨s1, s2, s3⟩ := stored_whole (w3 := w3) (Z := #[.int .i64 0, .int .i64 0, .int .i64 0, .int .i64 0, .int .i64 0, .int .i64 0, .int .i64 0, .int .i64 0, .string ⟨#[]⟩, .bool false, .int .i64 0, .int .i64 0, .int .i64 0, .int .i64 0, .int .i64 0, .int .i64 0, .int .i64 0, .int .i64 0, .bool false]) (C := C) (TY := 77) HCS.out
  have hT : (w3.alloc (.cells #[.int .i64 0, .int .i64 0, .int .i64 0, .int .i64 0, .int .i64 0, .int .i64 0, .int .i64 0, .int .i64 0, .string ⟨#[]⟩, .bool false, .int .i64 0, .int .i64 0, .int .i64 0, .int .i64 0, .int .i64 0, .int .i64 0, .int .i64 0, .int .i64 0, .bool false] 77)).there w3.heap.size 0 C.size := by rw [HCS.out]; exact there_of (alloc_heap w3 _)
  have hI : (Try.prog.info? 77).map (·.size) = some C.size := by rw [HCS.out]; rfl
  have h1C := HC1.out
  have x9 : (World.setCells (w3.alloc (.cells #[.int .i64 0, .int .i64 0, .int .i64 0, .int .i64 0, .int .i64 0, .int .i64 0, .int .i64 0, .int .i64 0, .string ⟨#[]⟩, .bool false, .int .i64 0, .int .i64 0, .int .i64 0, .int .i64 0, .int .i64 0, .int .i64 0, .int .i64 0, .int .i64 0, .bool false] 77)) w3.heap.size 0 C.toList).cell? ⟨w3.heap.size, 9, none⟩ = some (.bool true) := (cell_of s1 9).trans HCX9.out
  have x11 : (World.setCells (w3.alloc (.cells #[.int .i64 0, .int .i64 0, .int .i64 0, .int .i64 0, .int .i64 0, .int .i64 0, .int .i64 0, .int .i64 0, .string ⟨#[]⟩, .bool false, .int .i64 0, .int .i64 0, .int .i64 0, .int .i64 0, .int .i64 0, .int .i64 0, .int .i64 0, .int .i64 0, .bool false] 77)) w3.heap.size 0 C.toList).cell? ⟨w3.heap.size, 11, none⟩ = some (.int .i64 g1) := (cell_of s1 11).trans HCX11.out
  have x18 : (World.setCells (w3.alloc (.cells #[.int .i64 0, .int .i64 0, .int .i64 0, .int .i64 0, .int .i64 0, .int .i64 0, .int .i64 0, .int .i64 0, .string ⟨#[]⟩, .bool false, .int .i64 0, .int .i64 0, .int .i64 0, .int .i64 0, .int .i64 0, .int .i64 0, .int .i64 0, .int .i64 0, .bool false] 77)) w3.heap.size 0 C.toList).cell? ⟨w3.heap.size, 18, none⟩ = some (.bool true) := (cell_of s1 18).trans HCX18.out
  have huB := (s2.block _ hlt1).trans q1
  have huL : w.heap.size + 1 < (World.setCells (w3.alloc (.cells #[.int .i64 0, .int .i64 0, .int .i64 0, .int .i64 0, .int .i64 0, .int .i64 0, .int .i64 0, .int .i64 0, .string ⟨#[]⟩, .bool false, .int .i64 0, .int .i64 0, .int .i64 0, .int .i64 0, .int .i64 0, .int .i64 0, .int .i64 0, .int .i64 0, .bool false] 77)) w3.heap.size 0 C.toList).heap.size := by have := hlt1; omega
  have u2 : (World.setCells (w3.alloc (.cells #[.int .i64 0, .int .i64 0, .int .i64 0, .int .i64 0, .int .i64 0, .int .i64 0, .int .i64 0, .int .i64 0, .string ⟨#[]⟩, .bool false, .int .i64 0, .int .i64 0, .int .i64 0, .int .i64 0, .int .i64 0, .int .i64 0, .int .i64 0, .int .i64 0, .bool false] 77)) w3.heap.size 0 C.toList).cell? ⟨w.heap.size + 1, 2, none⟩ = some (.bool false) := cell_of huB 2
  clear q1
  go_wp2_with (refine wpList_store_mid rfl 77 _ _ rfl w3.heap.size 0 C rfl rfl hT hI h1C ?_; generalize World.setCells (w3.alloc (.cells #[.int .i64 0, .int .i64 0, .int .i64 0, .int .i64 0, .int .i64 0, .int .i64 0, .int .i64 0, .int .i64 0, .string ⟨#[]⟩, .bool false, .int .i64 0, .int .i64 0, .int .i64 0, .int .i64 0, .int .i64 0, .int .i64 0, .int .i64 0, .int .i64 0, .bool false] 77)) w3.heap.size 0 C.toList = W5 at s1 s2 s3 x9 x11 x18 huB huL u2 ⊢)
  go_ret2
  refine ⟨0, 6, rfl, Stp.keepB H.out (HB.out.trans (s2.mono HB.out.size)) ?_⟩
  unfold isOpen
  rw [if_neg (by rw [HO.out]; decide), if_pos rfl, HE.out]
  dsimp only
  rw [if_neg (by decide), if_pos ⟨rfl, fun q2 h2 => by rw [HQ.out] at h2; obtain rfl := Option.some.inj h2; exact HK.out⟩]
  exact ⟨rfl, rfl, rfl⟩
set_option maxRecDepth 100000 in
set_option maxHeartbeats 8000000 in
theorem wopen_must7 {w : World} {t : Nat} {S : Tab} {T : IT.Tr} (h : Tre w t S T) (hh : HB T 999999) (cwd : Int) (c : Cr) (s : ByteArray) (o : Ho) (ho : openB o = true) (hmk : o.make = true) {k : Nat} {nm : IT.Bytes} {m : IT.Nd} (he : entryT T c cwd (bs s) = .ok ⟨k, nm, true, none⟩) (hm : T k = some m) :
    Calls Try.prog 15 #[.pointer (some ⟨t, 0, none⟩), .int .i64 cwd, cred c, .string s, howV o] w fun e w' => ∃ (i : Nat) (r : Int), e = .returned (.tuple #[.int .i64 i, .int .i64 r]) ∧ Stp w t S (fun T' => isOpen T c cwd (bs s) o i r T') w' := by
  have H := Lib.hid h
  have HH := Lib.hid hh
  have HO := Lib.hid ho
  have HE := Lib.hid he
  obtain ⟨want, make, alone, empty, fin, mode⟩ := o
  dsimp only at hmk
  subst hmk
  have h123 : (bits BinOp.andNot .i64 want 6 == 0) = true ∧ (want == 0) = false ∧ Md.rightB mode = true := by
    unfold openB at ho
    simpa using ho
  obtain ⟨h1, h2, h3⟩ := h123
  have e1 : (bits BinOp.andNot .i64 want 6 != 0) = false := by rw [bne, h1]; rfl
  have HR : Hid (∀ W', Calls Try.prog 36 #[.int .i64 mode] W' fun e w' => e = .returned (.bool true) ∧ w' = W') := Lib.hid (fun W' => by
    have := Md.right_any mode W'; rw [h3] at this; exact this)
  clear h1 h3
  obtain ⟨d0, d1, d2, d3, d4, d5, d6, d7, hd, hc⟩ := wentry_none h cwd c s he hm
  obtain ⟨C, hC⟩ : ∃ C, C = entG d0 d1 d2 d3 d4 d5 d6 d7 (tx nm) true 0 0 0 0 0 0 0 0 false := ⟨_, rfl⟩
  rw [← hC] at hc
  have HC := Lib.hid hc
  have HD := Lib.hid (infC_inj hd)
  have HM := Lib.hid hm
  clear hm hc hd
  have HCS : Hid (C.size = 19) := Lib.hid (by rw [hC]; rfl)
  have HC1 : Hid (C.all (·.oneCell') = true) := Lib.hid (by rw [hC]; exact entG_one)
  have HCX9 : Hid (C[9]? = some (.bool true)) := Lib.hid (by rw [hC]; rfl)
  have HCX18 : Hid (C[18]? = some (.bool false)) := Lib.hid (by rw [hC]; rfl)
  clear h hh ho he hC
  unfold cred howV
  unfold ask at HC
  go_enter Try.func15, Try.ntmps15
  go_wp2_with fail
  refine (HR.out _).mono ?_
  rintro e w2 ⟨rfl, rfl⟩
  go_wp2_with fail
  refine (HC.out _ (belowA (belowA (belowA (belowA (Below.refl _ _) _) _) _) _)).mono ?_
  rintro e w3 ⟨rfl, hb⟩
  obtain ⟨_, q1, q2, q3, hlt, hbb⟩ := four_blocks hb
  have HB := Lib.hid hbb
  have hlt1 : w.heap.size + 1 < w3.heap.size := by omega
  have hlt2 : w.heap.size + 1 + 1 < w3.heap.size := by omega
  clear hb hbb HC HR
  clear q2 q3
  obtain ⟨s1, s2, s3⟩ := stored_whole (w3 := w3) (Z := #[.int .i64 0, .int .i64 0, .int .i64 0, .int .i64 0, .int .i64 0, .int .i64 0, .int .i64 0, .int .i64 0, .string ⟨#[]⟩, .bool false, .int .i64 0, .int .i64 0, .int .i64 0, .int .i64 0, .int .i64 0, .int .i64 0, .int .i64 0, .int .i64 0, .bool false]) (C := C) (TY := 77) HCS.out
  have hT : (w3.alloc (.cells #[.int .i64 0, .int .i64 0, .int .i64 0, .int .i64 0, .int .i64 0, .int .i64 0, .int .i64 0, .int .i64 0, .string ⟨#[]⟩, .bool false, .int .i64 0, .int .i64 0, .int .i64 0, .int .i64 0, .int .i64 0, .int .i64 0, .int .i64 0, .int .i64 0, .bool false] 77)).there w3.heap.size 0 C.size := by rw [HCS.out]; exact there_of (alloc_heap w3 _)
  have hI : (Try.prog.info? 77).map (·.size) = some C.size := by rw [HCS.out]; rfl
  have h1C := HC1.out
  have x9 : (World.setCells (w3.alloc (.cells #[.int .i64 0, .int .i64 0, .int .i64 0, .int .i64 0, .int .i64 0, .int .i64 0, .int .i64 0, .int .i64 0, .string ⟨#[]⟩, .bool false, .int .i64 0, .int .i64 0, .int .i64 0, .int .i64 0, .int .i64 0, .int .i64 0, .int .i64 0, .int .i64 0, .bool false] 77)) w3.heap.size 0 C.toList).cell? ⟨w3.heap.size, 9, none⟩ = some (.bool true) := (cell_of s1 9).trans HCX9.out
  have x18 : (World.setCells (w3.alloc (.cells #[.int .i64 0, .int .i64 0, .int .i64 0, .int .i64 0, .int .i64 0, .int .i64 0, .int .i64 0, .int .i64 0, .string ⟨#[]⟩, .bool false, .int .i64 0, .int .i64 0, .int .i64 0, .int .i64 0, .int .i64 0, .int .i64 0, .int .i64 0, .int .i64 0, .bool false] 77)) w3.heap.size 0 C.toList).cell? ⟨w3.heap.size, 18, none⟩ = some (.bool false) := (cell_of s1 18).trans HCX18.out
  have huB := (s2.block _ hlt1).trans q1
  have huL : w.heap.size + 1 < (World.setCells (w3.alloc (.cells #[.int .i64 0, .int .i64 0, .int .i64 0, .int .i64 0, .int .i64 0, .int .i64 0, .int .i64 0, .int .i64 0, .string ⟨#[]⟩, .bool false, .int .i64 0, .int .i64 0, .int .i64 0, .int .i64 0, .int .i64 0, .int .i64 0, .int .i64 0, .int .i64 0, .bool false] 77)) w3.heap.size 0 C.toList).heap.size := by have := hlt1; omega
  have u2 : (World.setCells (w3.alloc (.cells #[.int .i64 0, .int .i64 0, .int .i64 0, .int .i64 0, .int .i64 0, .int .i64 0, .int .i64 0, .int .i64 0, .string ⟨#[]⟩, .bool false, .int .i64 0, .int .i64 0, .int .i64 0, .int .i64 0, .int .i64 0, .int .i64 0, .int .i64 0, .int .i64 0, .bool false] 77)) w3.heap.size 0 C.toList).cell? ⟨w.heap.size + 1, 2, none⟩ = some (.bool alone) := cell_of huB 2
  clear q1
  go_wp2_with (refine wpList_store_mid rfl 77 _ _ rfl w3.heap.size 0 C rfl rfl hT hI h1C ?_; generalize World.setCells (w3.alloc (.cells #[.int .i64 0, .int .i64 0, .int .i64 0, .int .i64 0, .int .i64 0, .int .i64 0, .int .i64 0, .int .i64 0, .string ⟨#[]⟩, .bool false, .int .i64 0, .int .i64 0, .int .i64 0, .int .i64 0, .int .i64 0, .int .i64 0, .int .i64 0, .int .i64 0, .bool false] 77)) w3.heap.size 0 C.toList = W5 at s1 s2 s3 x9 x18 huB huL u2 ⊢)
  go_ret2
  refine ⟨0, 7, rfl, Stp.keepB H.out (HB.out.trans (s2.mono HB.out.size)) ?_⟩
  unfold isOpen
  rw [if_neg (by rw [HO.out]; decide), if_pos rfl, HE.out]
  dsimp only
  rw [if_pos rfl]
  exact ⟨rfl, rfl, rfl⟩
set_option maxRecDepth 100000 in
set_option maxHeartbeats 8000000 in
theorem wopen_new {w : World} {t : Nat} {S : Tab} {T : IT.Tr} (h : Tre w t S T) (hh : HB T 999999) (cwd : Int) (c : Cr) (s : ByteArray) (o : Ho) (ho : openB o = true) (hmk : o.make = true) {k : Nat} {nm : IT.Bytes} {m : IT.Nd} (he : entryT T c cwd (bs s) = .ok ⟨k, nm, false, none⟩) (hm : T k = some m) :
    Calls Try.prog 15 #[.pointer (some ⟨t, 0, none⟩), .int .i64 cwd, cred c, .string s, howV o] w fun e w' => ∃ (i : Nat) (r : Int), e = .returned (.tuple #[.int .i64 i, .int .i64 r]) ∧ Stp w t S (fun T' => isOpen T c cwd (bs s) o i r T') w' := by
  have H := Lib.hid h
  have HH := Lib.hid hh
  have HO := Lib.hid ho
  have HE := Lib.hid he
  obtain ⟨want, make, alone, empty, fin, mode⟩ := o
  dsimp only at hmk
  subst hmk
  have h123 : (bits BinOp.andNot .i64 want 6 == 0) = true ∧ (want == 0) = false ∧ Md.rightB mode = true := by
    unfold openB at ho
    simpa using ho
  obtain ⟨h1, h2, h3⟩ := h123
  have e1 : (bits BinOp.andNot .i64 want 6 != 0) = false := by rw [bne, h1]; rfl
  have HR : Hid (∀ W', Calls Try.prog 36 #[.int .i64 mode] W' fun e w' => e = .returned (.bool true) ∧ w' = W') := Lib.hid (fun W' => by
    have := Md.right_any mode W'; rw [h3] at this; exact this)
  clear h1 h3
  obtain ⟨d0, d1, d2, d3, d4, d5, d6, d7, hd, hc⟩ := wentry_none h cwd c s he hm
  obtain ⟨C, hC⟩ : ∃ C, C = entG d0 d1 d2 d3 d4 d5 d6 d7 (tx nm) false 0 0 0 0 0 0 0 0 false := ⟨_, rfl⟩
  rw [← hC] at hc
  have HC := Lib.hid hc
  have HD := Lib.hid (infC_inj hd)
  have HM := Lib.hid hm
  clear hm hc hd
  have HCE := Lib.hid hC
  have HCS : Hid (C.size = 19) := Lib.hid (by rw [hC]; rfl)
  have HC1 : Hid (C.all (·.oneCell') = true) := Lib.hid (by rw [hC]; exact entG_one)
  have HCX9 : Hid (C[9]? = some (.bool false)) := Lib.hid (by rw [hC]; rfl)
  have HCX18 : Hid (C[18]? = some (.bool false)) := Lib.hid (by rw [hC]; rfl)
  clear h hh ho he hC
  unfold cred howV
  unfold ask at HC
  go_enter Try.func15, Try.ntmps15
  go_wp2_with fail
  refine (HR.out _).mono ?_
  rintro e w2 ⟨rfl, rfl⟩
  go_wp2_with fail
  refine (HC.out _ (belowA (belowA (belowA (belowA (Below.refl _ _) _) _) _) _)).mono ?_
  rintro e w3 ⟨rfl, hb⟩
  obtain ⟨_, q1, q2, q3, hlt, hbb⟩ := four_blocks hb
  have HB := Lib.hid hbb
  have hlt1 : w.heap.size + 1 < w3.heap.size := by omega
  have hlt2 : w.heap.size + 1 + 1 < w3.heap.size := by omega
  clear hb hbb HC HR
  clear q3
  obtain ⟨s1, s2, s3⟩ := stored_whole (w3 := w3) (Z := #[.int .i64 0, .int .i64 0, .int .i64 0, .int .i64 0, .int .i64 0, .int .i64 0, .int .i64 0, .int .i64 0, .string ⟨#[]⟩, .bool false, .int .i64 0, .int .i64 0, .int .i64 0, .int .i64 0, .int .i64 0, .int .i64 0, .int .i64 0, .int .i64 0, .bool false]) (C := C) (TY := 77) HCS.out
  have hT : (w3.alloc (.cells #[.int .i64 0, .int .i64 0, .int .i64 0, .int .i64 0, .int .i64 0, .int .i64 0, .int .i64 0, .int .i64 0, .string ⟨#[]⟩, .bool false, .int .i64 0, .int .i64 0, .int .i64 0, .int .i64 0, .int .i64 0, .int .i64 0, .int .i64 0, .int .i64 0, .bool false] 77)).there w3.heap.size 0 C.size := by rw [HCS.out]; exact there_of (alloc_heap w3 _)
  have hI : (Try.prog.info? 77).map (·.size) = some C.size := by rw [HCS.out]; rfl
  have h1C := HC1.out
  have x9 : (World.setCells (w3.alloc (.cells #[.int .i64 0, .int .i64 0, .int .i64 0, .int .i64 0, .int .i64 0, .int .i64 0, .int .i64 0, .int .i64 0, .string ⟨#[]⟩, .bool false, .int .i64 0, .int .i64 0, .int .i64 0, .int .i64 0, .int .i64 0, .int .i64 0, .int .i64 0, .int .i64 0, .bool false] 77)) w3.heap.size 0 C.toList).cell? ⟨w3.heap.size, 9, none⟩ = some (.bool false) := (cell_of s1 9).trans HCX9.out
  have x18 : (World.setCells (w3.alloc (.cells #[.int .i64 0, .int .i64 0, .int .i64 0, .int .i64 0, .int .i64 0, .int .i64 0, .int .i64 0, .int .i64 0, .string ⟨#[]⟩, .bool false, .int .i64 0, .int .i64 0, .int .i64 0, .int .i64 0, .int .i64 0, .int .i64 0, .int .i64 0, .int .i64 0, .bool false] 77)) w3.heap.size 0 C.toList).cell? ⟨w3.heap.size, 18, none⟩ = some (.bool false) := (cell_of s1 18).trans HCX18.out
  have huB := (s2.block _ hlt1).trans q1
  have huL : w.heap.size + 1 < (World.setCells (w3.alloc (.cells #[.int .i64 0, .int .i64 0, .int .i64 0, .int .i64 0, .int .i64 0, .int .i64 0, .int .i64 0, .int .i64 0, .string ⟨#[]⟩, .bool false, .int .i64 0, .int .i64 0, .int .i64 0, .int .i64 0, .int .i64 0, .int .i64 0, .int .i64 0, .int .i64 0, .bool false] 77)) w3.heap.size 0 C.toList).heap.size := by have := hlt1; omega
  have u2 : (World.setCells (w3.alloc (.cells #[.int .i64 0, .int .i64 0, .int .i64 0, .int .i64 0, .int .i64 0, .int .i64 0, .int .i64 0, .int .i64 0, .string ⟨#[]⟩, .bool false, .int .i64 0, .int .i64 0, .int .i64 0, .int .i64 0, .int .i64 0, .int .i64 0, .int .i64 0, .int .i64 0, .bool false] 77)) w3.heap.size 0 C.toList).cell? ⟨w.heap.size + 1, 2, none⟩ = some (.bool alone) := cell_of huB 2
  have u5 : (World.setCells (w3.alloc (.cells #[.int .i64 0, .int .i64 0, .int .i64 0, .int .i64 0, .int .i64 0, .int .i64 0, .int .i64 0, .int .i64 0, .string ⟨#[]⟩, .bool false, .int .i64 0, .int .i64 0, .int .i64 0, .int .i64 0, .int .i64 0, .int .i64 0, .int .i64 0, .int .i64 0, .bool false] 77)) w3.heap.size 0 C.toList).cell? ⟨w.heap.size + 1, 5, none⟩ = some (.int .i64 mode) := cell_of huB 5
  have haB := (s2.block _ hlt2).trans q2
  have haL : w.heap.size + 1 + 1 < (World.setCells (w3.alloc (.cells #[.int .i64 0, .int .i64 0, .int .i64 0, .int .i64 0, .int .i64 0, .int .i64 0, .int .i64 0, .int .i64 0, .string ⟨#[]⟩, .bool false, .int .i64 0, .int .i64 0, .int .i64 0, .int .i64 0, .int .i64 0, .int .i64 0, .int .i64 0, .int .i64 0, .bool false] 77)) w3.heap.size 0 C.toList).heap.size := by have := hlt2; omega
  have a0 : (World.setCells (w3.alloc (.cells #[.int .i64 0, .int .i64 0, .int .i64 0, .int .i64 0, .int .i64 0, .int .i64 0, .int .i64 0, .int .i64 0, .string ⟨#[]⟩, .bool false, .int .i64 0, .int .i64 0, .int .i64 0, .int .i64 0, .int .i64 0, .int .i64 0, .int .i64 0, .int .i64 0, .bool false] 77)) w3.heap.size 0 C.toList).cell? ⟨w.heap.size + 1 + 1, 0, none⟩ = some (.pointer (some ⟨t, 0, none⟩)) := cell_of haB 0
  have a1 : (World.setCells (w3.alloc (.cells #[.int .i64 0, .int .i64 0, .int .i64 0, .int .i64 0, .int .i64 0, .int .i64 0, .int .i64 0, .int .i64 0, .string ⟨#[]⟩, .bool false, .int .i64 0, .int .i64 0, .int .i64 0, .int .i64 0, .int .i64 0, .int .i64 0, .int .i64 0, .int .i64 0, .bool false] 77)) w3.heap.size 0 C.toList).cell? ⟨w.heap.size + 1 + 1, 1, none⟩ = some (.int .i64 cwd) := cell_of haB 1
  have a2 : (World.setCells (w3.alloc (.cells #[.int .i64 0, .int .i64 0, .int .i64 0, .int .i64 0, .int .i64 0, .int .i64 0, .int .i64 0, .int .i64 0, .string ⟨#[]⟩, .bool false, .int .i64 0, .int .i64 0, .int .i64 0, .int .i64 0, .int .i64 0, .int .i64 0, .int .i64 0, .int .i64 0, .bool false] 77)) w3.heap.size 0 C.toList).cell? ⟨w.heap.size + 1 + 1, 2, none⟩ = some (.int .i64 c.real) := cell_of haB 2
  have a3 : (World.setCells (w3.alloc (.cells #[.int .i64 0, .int .i64 0, .int .i64 0, .int .i64 0, .int .i64 0, .int .i64 0, .int .i64 0, .int .i64 0, .string ⟨#[]⟩, .bool false, .int .i64 0, .int .i64 0, .int .i64 0, .int .i64 0, .int .i64 0, .int .i64 0, .int .i64 0, .int .i64 0, .bool false] 77)) w3.heap.size 0 C.toList).cell? ⟨w.heap.size + 1 + 1, 3, none⟩ = some (.int .i64 c.eff) := cell_of haB 3
  have a4 : (World.setCells (w3.alloc (.cells #[.int .i64 0, .int .i64 0, .int .i64 0, .int .i64 0, .int .i64 0, .int .i64 0, .int .i64 0, .int .i64 0, .string ⟨#[]⟩, .bool false, .int .i64 0, .int .i64 0, .int .i64 0, .int .i64 0, .int .i64 0, .int .i64 0, .int .i64 0, .int .i64 0, .bool false] 77)) w3.heap.size 0 C.toList).cell? ⟨w.heap.size + 1 + 1, 4, none⟩ = some (.int .i64 c.saved) := cell_of haB 4
  have a5 : (World.setCells (w3.alloc (.cells #[.int .i64 0, .int .i64 0, .int .i64 0, .int .i64 0, .int .i64 0, .int .i64 0, .int .i64 0, .int .i64 0, .string ⟨#[]⟩, .bool false, .int .i64 0, .int .i64 0, .int .i64 0, .int .i64 0, .int .i64 0, .int .i64 0, .int .i64 0, .int .i64 0, .bool false] 77)) w3.heap.size 0 C.toList).cell? ⟨w.heap.size + 1 + 1, 5, none⟩ = some (.int .i64 c.group) := cell_of haB 5
  have a6 : (World.setCells (w3.alloc (.cells #[.int .i64 0, .int .i64 0, .int .i64 0, .int .i64 0, .int .i64 0, .int .i64 0, .int .i64 0, .int .i64 0, .string ⟨#[]⟩, .bool false, .int .i64 0, .int .i64 0, .int .i64 0, .int .i64 0, .int .i64 0, .int .i64 0, .int .i64 0, .int .i64 0, .bool false] 77)) w3.heap.size 0 C.toList).cell? ⟨w.heap.size + 1 + 1, 6, none⟩ = some (.int .i64 c.eg) := cell_of haB 6
  clear q1 q2
  go_wp2_with (first | (refine wpList_store_mid rfl 77 _ _ rfl w3.heap.size 0 C rfl rfl hT hI h1C ?_; generalize World.setCells (w3.alloc (.cells #[.int .i64 0, .int .i64 0, .int .i64 0, .int .i64 0, .int .i64 0, .int .i64 0, .int .i64 0, .int .i64 0, .string ⟨#[]⟩, .bool false, .int .i64 0, .int .i64 0, .int .i64 0, .int .i64 0, .int .i64 0, .int .i64 0, .int .i64 0, .int .i64 0, .bool false] 77)) w3.heap.size 0 C.toList = W5 at s1 s2 s3 x9 x18 huB huL u2 u5 haB haL a0 a1 a2 a3 a4 a5 a6 ⊢) | (refine wpList_load_mid rfl 77 _ rfl w3.heap.size 0 rfl C.toList _ (range_of s1) rfl rfl hI ?_))
  have HB5 : Hid (Below w.heap.size w W5) := Lib.hid (HB.out.trans (s2.mono HB.out.size))
  have hmk := makes_any (H.out.mv ((Mv.refl H.out.rep).below HB5.out)) (HH.out.mono (by decide)) cwd c d0 d1 d2 d3 d4 d5 d6 d7 (tx nm) false 0 0 0 0 0 0 0 0 false 0 mode
  rw [← HCE.out] at hmk
  unfold ask at hmk
  clear x9 x18 hT hI h1C s1 s2 s3 huB huL haB haL a0 a1 a2 a3 a4 a5 a6 u2 u5
  refine hmk.mono ?_
  rintro e w6 ⟨i1, r1, rfl, hs⟩
  clear hmk
  have HS := Lib.hid (Stp.pre ((Mv.refl H.out.rep).below HB5.out) hs)
  clear hs
  go_wp2
  go_ret2
  refine ⟨i1, r1, rfl, HS.out.imp fun T' hT' => ?_⟩
  unfold isOpen
  rw [if_neg (by rw [HO.out]; decide), if_pos rfl, HE.out]
  dsimp only
  rw [if_neg (by decide)]
  refine ⟨m, HM.out, ?_⟩
  obtain ⟨e0, e1, e2, e3, e4, _, _, _⟩ := HD.out
  rw [← e0, ← e1, ← e2, ← e3, ← e4, bs_tx] at hT'
  exact hT'
end Go.Proofs.Ytafonmnfeibaiaa
namespace Go.Proofs.Ytafonmnfeibaiaa
open Go.RowKit

set_option maxRecDepth 100000 in
set_option maxHeartbeats 8000000 in
theorem wopen_old {w : World} {t : Nat} {S : Tab} {T : IT.Tr} (h : Tre w t S T) (hh : HB T 999999) (cwd : Int) (c : Cr) (s : ByteArray) (o : Ho) (ho : openB o = true) (hmk : o.make = true) {k j : Nat} {nm : IT.Bytes} {m q : IT.Nd} (he : entryT T c cwd (bs s) = .ok ⟨k, nm, false, some j⟩) (hm : T k = some m) (hq : T j = some q) (hal : o.alone = false) :
    Calls Try.prog 15 #[.pointer (some ⟨t, 0, none⟩), .int .i64 cwd, cred c, .string s, howV o] w fun e w' => ∃ (i : Nat) (r : Int), e = .returned (.tuple #[.int .i64 i, .int .i64 r]) ∧ Stp w t S (fun T' => isOpen T c cwd (bs s) o i r T') w' := by
  have H := Lib.hid h
  have HH := Lib.hid hh
  have HO := Lib.hid ho
  have HE := Lib.hid he
  obtain ⟨want, make, alone, empty, fin, mode⟩ := o
  dsimp only at hmk
  subst hmk
  have h123 : (bits BinOp.andNot .i64 want 6 == 0) = true ∧ (want == 0) = false ∧ Md.rightB mode = true := by
    unfold openB at ho
    simpa using ho
  obtain ⟨h1, h2, h3⟩ := h123
  have e1 : (bits BinOp.andNot .i64 want 6 != 0) = false := by rw [bne, h1]; rfl
  have HR : Hid (∀ W', Calls Try.prog 36 #[.int .i64 mode] W' fun e w' => e = .returned (.bool true) ∧ w' = W') := Lib.hid (fun W' => by
    have := Md.right_any mode W'; rw [h3] at this; exact this)
  clear h1 h3
  obtain ⟨d0, d1, d2, d3, d4, d5, d6, d7, g0, g1, g2, g3, g4, g5, g6, g7, _, hgd, hc⟩ := wentry_some h cwd c s he hm hq
  obtain ⟨C, hC⟩ : ∃ C, C = entG d0 d1 d2 d3 d4 d5 d6 d7 (tx nm) false g0 g1 g2 g3 g4 g5 g6 g7 true := ⟨_, rfl⟩
  rw [← hC] at hc
  have HC := Lib.hid hc
  have HD := Lib.hid (infC_inj hgd)
  have HQ := Lib.hid hq
  clear hc hgd
  dsimp only at hal
  subst hal
  have HM : Hid (∀ W', Calls Try.prog 42 #[ask t cwd c, infoV g0 g1 g2 g3 g4 g5 g6 g7, .int .i64 want] W' fun e w' => e = .returned (.bool (mayN q c want)) ∧ Below W'.heap.size W' w') := Lib.hid (fun W' => by
    have hh := wmay_any t cwd c g0 g1 g2 g3 g4 g5 g6 g7 want W'
    obtain ⟨e0, e1, e2, e3, e4, _, _, _⟩ := HD.out
    rw [← e1, ← e2, ← e3, ← e4] at hh ⊢
    exact hh)
  unfold ask infoV at HM
  have HL : Hid (∀ (i : Nat) (r : Int) (T' : IT.Tr), isOpened T c ⟨want, true, false, empty, fin, mode⟩ j i r T' → isOpen T c cwd (bs s) ⟨want, true, false, empty, fin, mode⟩ i r T') := Lib.hid (fun i r T' hh => by
    unfold isOpen
    rw [if_neg (by rw [HO.out]; decide), if_pos rfl, HE.out]
    dsimp only
    rw [if_neg (by decide), if_neg (fun hh => by cases hh.1)]
    exact hh)
  have HCS : Hid (C.size = 19) := Lib.hid (by rw [hC]; rfl)
  have HC1 : Hid (C.all (·.oneCell') = true) := Lib.hid (by rw [hC]; exact entG_one)
  cases hw : (bits BinOp.and .i64 want 2 != 0) with
  | false =>
    have HW := Lib.hid hw
    have HCX9 : Hid (C[9]? = some (.bool false)) := Lib.hid (by rw [hC]; rfl)
    have HCX10 : Hid (C[10]? = some (.int .i64 g0)) := Lib.hid (by rw [hC]; rfl)
    have HCX11 : Hid (C[11]? = some (.int .i64 g1)) := Lib.hid (by rw [hC]; rfl)
    have HCX12 : Hid (C[12]? = some (.int .i64 g2)) := Lib.hid (by rw [hC]; rfl)
    have HCX13 : Hid (C[13]? = some (.int .i64 g3)) := Lib.hid (by rw [hC]; rfl)
    have HCX14 : Hid (C[14]? = some (.int .i64 g4)) := Lib.hid (by rw [hC]; rfl)
    have HCX15 : Hid (C[15]? = some (.int .i64 g5)) := Lib.hid (by rw [hC]; rfl)
    have HCX16 : Hid (C[16]? = some (.int .i64 g6)) := Lib.hid (by rw [hC]; rfl)
    have HCX17 : Hid (C[17]? = some (.int .i64 g7)) := Lib.hid (by rw [hC]; rfl)
    have HCX18 : Hid (C[18]? = some (.bool true)) := Lib.hid (by rw [hC]; rfl)
    clear h hh ho he hC hq hm
    unfold cred howV
    unfold ask at HC
    go_enter Try.func15, Try.ntmps15
    go_wp2_with fail
    refine (HR.out _).mono ?_
    rintro e w2 ⟨rfl, rfl⟩
    go_wp2_with fail
    refine (HC.out _ (belowA (belowA (belowA (belowA (Below.refl _ _) _) _) _) _)).mono ?_
    rintro e w3 ⟨rfl, hb⟩
    obtain ⟨_, q1, q2, q3, hlt, hbb⟩ := four_blocks hb
    have HB := Lib.hid hbb
    have hlt1 : w.heap.size + 1 < w3.heap.size := by omega
    have hlt2 : w.heap.size + 1 + 1 < w3.heap.size := by omega
    clear hb hbb HC HR
    obtain ⟨s1, s2, s3⟩ := stored_whole (w3 := w3) (Z := #[.int .i64 0, .int .i64 0, .int .i64 0, .int .i64 0, .int .i64 0, .int .i64 0, .int .i64 0, .int .i64 0, .string ⟨#[]⟩, .bool false, .int .i64 0, .int .i64 0, .int .i64 0, .int .i64 0, .int .i64 0, .int .i64 0, .int .i64 0, .int .i64 0, .bool false]) (C := C) (TY := 77) HCS.out
    have hT : (w3.alloc (.cells #[.int .i64 0, .int .i64 0, .int .i64 0, .int .i64 0, .int .i64 0, .int .i64 0, .int .i64 0, .int .i64 0, .string ⟨#[]⟩, .bool false, .int .i64 0, .int .i64 0, .int .i64 0, .int .i64 0, .int .i64 0, .int .i64 0, .int .i64 0, .int .i64 0, .bool false] 77)).there w3.heap.size 0 C.size := by rw [HCS.out]; exact there_of (alloc_heap w3 _)
    have hI : (Try.prog.info? 77).map (·.size) = some C.size := by rw [HCS.out]; rfl
    have h1C := HC1.out
    have x9 : (World.setCells (w3.alloc (.cells #[.int .i64 0, .int .i64 0, .int .i64 0, .int .i64 0, .int .i64 0, .int .i64 0, .int .i64 0, .int .i64 0, .string ⟨#[]⟩, .bool false, .int .i64 0, .int .i64 0, .int .i64 0, .int .i64 0, .int .i64 0, .int .i64 0, .int .i64 0, .int .i64 0, .bool false] 77)) w3.heap.size 0 C.toList).cell? ⟨w3.heap.size, 9, none⟩ = some (.bool false) := (cell_of s1 9).trans HCX9.out
    have x10 : (World.setCells (w3.alloc (.cells #[.int .i64 0, .int .i64 0, .int .i64 0, .int .i64 0, .int .i64 0, .int .i64 0, .int .i64 0, .int .i64 0, .string ⟨#[]⟩, .bool false, .int .i64 0, .int .i64 0, .int .i64 0, .int .i64 0, .int .i64 0, .int .i64 0, .int .i64 0, .int .i64 0, .bool false] 77)) w3.heap.size 0 C.toList).cell? ⟨w3.heap.size, 10, none⟩ = some (.int .i64 g0) := (cell_of s1 10).trans HCX10.out
    have x11 : (World.setCells (w3.alloc (.cells #[.int .i64 0, .int .i64 0, .int .i64 0, .int .i64 0, .int .i64 0, .int .i64 0, .int .i64 0, .int .i64 0, .string ⟨#[]⟩, .bool false, .int .i64 0, .int .i64 0, .int .i64 0, .int .i64 0, .int .i64 0, .int .i64 0, .int .i64 0, .int .i64 0, .bool false] 77)) w3.heap.size 0 C.toList).cell? ⟨w3.heap.size, 11, none⟩ = some (.int .i64 g1) := (cell_of s1 11).trans HCX11.out
    have x12 : (World.setCells (w3.alloc (.cells #[.int .i64 0, .int .i64 0, .int .i64 0, .int .i64 0, .int .i64 0, .int .i64 0, .int .i64 0, .int .i64 0, .string ⟨#[]⟩, .bool false, .int .i64 0, .int .i64 0, .int .i64 0, .int .i64 0, .int .i64 0, .int .i64 0, .int .i64 0, .int .i64 0, .bool false] 77)) w3.heap.size 0 C.toList).cell? ⟨w3.heap.size, 12, none⟩ = some (.int .i64 g2) := (cell_of s1 12).trans HCX12.out
    have x13 : (World.setCells (w3.alloc (.cells #[.int .i64 0, .int .i64 0, .int .i64 0, .int .i64 0, .int .i64 0, .int .i64 0, .int .i64 0, .int .i64 0, .string ⟨#[]⟩, .bool false, .int .i64 0, .int .i64 0, .int .i64 0, .int .i64 0, .int .i64 0, .int .i64 0, .int .i64 0, .int .i64 0, .bool false] 77)) w3.heap.size 0 C.toList).cell? ⟨w3.heap.size, 13, none⟩ = some (.int .i64 g3) := (cell_of s1 13).trans HCX13.out
    have x14 : (World.setCells (w3.alloc (.cells #[.int .i64 0, .int .i64 0, .int .i64 0, .int .i64 0, .int .i64 0, .int .i64 0, .int .i64 0, .int .i64 0, .string ⟨#[]⟩, .bool false, .int .i64 0, .int .i64 0, .int .i64 0, .int .i64 0, .int .i64 0, .int .i64 0, .int .i64 0, .int .i64 0, .bool false] 77)) w3.heap.size 0 C.toList).cell? ⟨w3.heap.size, 14, none⟩ = some (.int .i64 g4) := (cell_of s1 14).trans HCX14.out
    have x15 : (World.setCells (w3.alloc (.cells #[.int .i64 0, .int .i64 0, .int .i64 0, .int .i64 0, .int .i64 0, .int .i64 0, .int .i64 0, .int .i64 0, .string ⟨#[]⟩, .bool false, .int .i64 0, .int .i64 0, .int .i64 0, .int .i64 0, .int .i64 0, .int .i64 0, .int .i64 0, .int .i64 0, .bool false] 77)) w3.heap.size 0 C.toList).cell? ⟨w3.heap.size, 15, none⟩ = some (.int .i64 g5) := (cell_of s1 15).trans HCX15.out
    have x16 : (World.setCells (w3.alloc (.cells #[.int .i64 0, .int .i64 0, .int .i64 0, .int .i64 0, .int .i64 0, .int .i64 0, .int .i64 0, .int .i64 0, .string ⟨#[]⟩, .bool false, .int .i64 0, .int .i64 0, .int .i64 0, .int .i64 0, .int .i64 0, .int .i64 0, .int .i64 0, .int .i64 0, .bool false] 77)) w3.heap.size 0 C.toList).cell? ⟨w3.heap.size, 16, none⟩ = some (.int .i64 g6) := (cell_of s1 16).trans HCX16.out
    have x17 : (World.setCells (w3.alloc (.cells #[.int .i64 0, .int .i64 0, .int .i64 0, .int .i64 0, .int .i64 0, .int .i64 0, .int .i64 0, .int .i64 0, .string ⟨#[]⟩, .bool false, .int .i64 0, .int .i64 0, .int .i64 0, .int .i64 0, .int .i64 0, .int .i64 0, .int .i64 0, .int .i64 0, .bool false] 77)) w3.heap.size 0 C.toList).cell? ⟨w3.heap.size, 17, none⟩ = some (.int .i64 g7) := (cell_of s1 17).trans HCX17.out
    have x18 : (World.setCells (w3.alloc (.cells #[.int .i64 0, .int .i64 0, .int .i64 0, .int .i64 0, .int .i64 0, .int .i64 0, .int .i64 0, .int .i64 0, .string ⟨#[]⟩, .bool false, .int .i64 0, .int .i64 0, .int .i64 0, .int .i64 0, .int .i64 0, .int .i64 0, .int .i64 0, .int .i64 0, .bool false] 77)) w3.heap.size 0 C.toList).cell? ⟨w3.heap.size, 18, none⟩ = some (.bool true) := (cell_of s1 18).trans HCX18.out
    have huB := (s2.block _ hlt1).trans q1
    have huL : w.heap.size + 1 < (World.setCells (w3.alloc (.cells #[.int .i64 0, .int .i64 0, .int .i64 0, .int .i64 0, .int .i64 0, .int .i64 0, .int .i64 0, .int .i64 0, .string ⟨#[]⟩, .bool false, .int .i64 0, .int .i64 0, .int .i64 0, .int .i64 0, .int .i64 0, .int .i64 0, .int .i64 0, .int .i64 0, .bool false] 77)) w3.heap.size 0 C.toList).heap.size := by have := hlt1; omega
    have u0 : (World.setCells (w3.alloc (.cells #[.int .i64 0, .int .i64 0, .int .i64 0, .int .i64 0, .int .i64 0, .int .i64 0, .int .i64 0, .int .i64 0, .string ⟨#[]⟩, .bool false, .int .i64 0, .int .i64 0, .int .i64 0, .int .i64 0, .int .i64 0, .int .i64 0, .int .i64 0, .int .i64 0, .bool false] 77)) w3.heap.size 0 C.toList).cell? ⟨w.heap.size + 1, 0, none⟩ = some (.int .i64 want) := cell_of huB 0
    have u2 : (World.setCells (w3.alloc (.cells #[.int .i64 0, .int .i64 0, .int .i64 0, .int .i64 0, .int .i64 0, .int .i64 0, .int .i64 0, .int .i64 0, .string ⟨#[]⟩, .bool false, .int .i64 0, .int .i64 0, .int .i64 0, .int .i64 0, .int .i64 0, .int .i64 0, .int .i64 0, .int .i64 0, .bool false] 77)) w3.heap.size 0 C.toList).cell? ⟨w.heap.size + 1, 2, none⟩ = some (.bool false) := cell_of huB 2
    have u3 : (World.setCells (w3.alloc (.cells #[.int .i64 0, .int .i64 0, .int .i64 0, .int .i64 0, .int .i64 0, .int .i64 0, .int .i64 0, .int .i64 0, .string ⟨#[]⟩, .bool false, .int .i64 0, .int .i64 0, .int .i64 0, .int .i64 0, .int .i64 0, .int .i64 0, .int .i64 0, .int .i64 0, .bool false] 77)) w3.heap.size 0 C.toList).cell? ⟨w.heap.size + 1, 3, none⟩ = some (.bool empty) := cell_of huB 3
    have haB := (s2.block _ hlt2).trans q2
    have haL : w.heap.size + 1 + 1 < (World.setCells (w3.alloc (.cells #[.int .i64 0, .int .i64 0, .int .i64 0, .int .i64 0, .int .i64 0, .int .i64 0, .int .i64 0, .int .i64 0, .string ⟨#[]⟩, .bool false, .int .i64 0, .int .i64 0, .int .i64 0, .int .i64 0, .int .i64 0, .int .i64 0, .int .i64 0, .int .i64 0, .bool false] 77)) w3.heap.size 0 C.toList).heap.size := by have := hlt2; omega
    have a0 : (World.setCells (w3.alloc (.cells #[.int .i64 0, .int .i64 0, .int .i64 0, .int .i64 0, .int .i64 0, .int .i64 0, .int .i64 0, .int .i64 0, .string ⟨#[]⟩, .bool false, .int .i64 0, .int .i64 0, .int .i64 0, .int .i64 0, .int .i64 0, .int .i64 0, .int .i64 0, .int .i64 0, .bool false] 77)) w3.heap.size 0 C.toList).cell? ⟨w.heap.size + 1 + 1, 0, none⟩ = some (.pointer (some ⟨t, 0, none⟩)) := cell_of haB 0
    have a1 : (World.setCells (w3.alloc (.cells #[.int .i64 0, .int .i64 0, .int .i64 0, .int .i64 0, .int .i64 0, .int .i64 0, .int .i64 0, .int .i64 0, .string ⟨#[]⟩, .bool false, .int .i64 0, .int .i64 0, .int .i64 0, .int .i64 0, .int .i64 0, .int .i64 0, .int .i64 0, .int .i64 0, .bool false] 77)) w3.heap.size 0 C.toList).cell? ⟨w.heap.size + 1 + 1, 1, none⟩ = some (.int .i64 cwd) := cell_of haB 1
    have a2 : (World.setCells (w3.alloc (.cells #[.int .i64 0, .int .i64 0, .int .i64 0, .int .i64 0, .int .i64 0, .int .i64 0, .int .i64 0, .int .i64 0, .string ⟨#[]⟩, .bool false, .int .i64 0, .int .i64 0, .int .i64 0, .int .i64 0, .int .i64 0, .int .i64 0, .int .i64 0, .int .i64 0, .bool false] 77)) w3.heap.size 0 C.toList).cell? ⟨w.heap.size + 1 + 1, 2, none⟩ = some (.int .i64 c.real) := cell_of haB 2
    have a3 : (World.setCells (w3.alloc (.cells #[.int .i64 0, .int .i64 0, .int .i64 0, .int .i64 0, .int .i64 0, .int .i64 0, .int .i64 0, .int .i64 0, .string ⟨#[]⟩, .bool false, .int .i64 0, .int .i64 0, .int .i64 0, .int .i64 0, .int .i64 0, .int .i64 0, .int .i64 0, .int .i64 0, .bool false] 77)) w3.heap.size 0 C.toList).cell? ⟨w.heap.size + 1 + 1, 3, none⟩ = some (.int .i64 c.eff) := cell_of haB 3
    have a4 : (World.setCells (w3.alloc (.cells #[.int .i64 0, .int .i64 0, .int .i64 0, .int .i64 0, .int .i64 0, .int .i64 0, .int .i64 0, .int .i64 0, .string ⟨#[]⟩, .bool false, .int .i64 0, .int .i64 0, .int .i64 0, .int .i64 0, .int .i64 0, .int .i64 0, .int .i64 0, .int .i64 0, .bool false] 77)) w3.heap.size 0 C.toList).cell? ⟨w.heap.size + 1 + 1, 4, none⟩ = some (.int .i64 c.saved) := cell_of haB 4
    have a5 : (World.setCells (w3.alloc (.cells #[.int .i64 0, .int .i64 0, .int .i64 0, .int .i64 0, .int .i64 0, .int .i64 0, .int .i64 0, .int .i64 0, .string ⟨#[]⟩, .bool false, .int .i64 0, .int .i64 0, .int .i64 0, .int .i64 0, .int .i64 0, .int .i64 0, .int .i64 0, .int .i64 0, .bool false] 77)) w3.heap.size 0 C.toList).cell? ⟨w.heap.size + 1 + 1, 5, none⟩ = some (.int .i64 c.group) := cell_of haB 5
    have a6 : (World.setCells (w3.alloc (.cells #[.int .i64 0, .int .i64 0, .int .i64 0, .int .i64 0, .int .i64 0, .int .i64 0, .int .i64 0, .int .i64 0, .string ⟨#[]⟩, .bool false, .int .i64 0, .int .i64 0, .int .i64 0, .int .i64 0, .int .i64 0, .int .i64 0, .int .i64 0, .int .i64 0, .bool false] 77)) w3.heap.size 0 C.toList).cell? ⟨w.heap.size + 1 + 1, 6, none⟩ = some (.int .i64 c.eg) := cell_of haB 6
    have hpB := (s2.block _ hlt).trans q3
    have hpL : w.heap.size + 1 + 1 + 1 < (World.setCells (w3.alloc (.cells #[.int .i64 0, .int .i64 0, .int .i64 0, .int .i64 0, .int .i64 0, .int .i64 0, .int .i64 0, .int .i64 0, .string ⟨#[]⟩, .bool false, .int .i64 0, .int .i64 0, .int .i64 0, .int .i64 0, .int .i64 0, .int .i64 0, .int .i64 0, .int .i64 0, .bool false] 77)) w3.heap.size 0 C.toList).heap.size := by have := hlt; omega
    have p0 : (World.setCells (w3.alloc (.cells #[.int .i64 0, .int .i64 0, .int .i64 0, .int .i64 0, .int .i64 0, .int .i64 0, .int .i64 0, .int .i64 0, .string ⟨#[]⟩, .bool false, .int .i64 0, .int .i64 0, .int .i64 0, .int .i64 0, .int .i64 0, .int .i64 0, .int .i64 0, .int .i64 0, .bool false] 77)) w3.heap.size 0 C.toList).cell? ⟨w.heap.size + 1 + 1 + 1, 0, none⟩ = some (.int .i64 0) := cell_of hpB 0
    have p1 : (World.setCells (w3.alloc (.cells #[.int .i64 0, .int .i64 0, .int .i64 0, .int .i64 0, .int .i64 0, .int .i64 0, .int .i64 0, .int .i64 0, .string ⟨#[]⟩, .bool false, .int .i64 0, .int .i64 0, .int .i64 0, .int .i64 0, .int .i64 0, .int .i64 0, .int .i64 0, .int .i64 0, .bool false] 77)) w3.heap.size 0 C.toList).cell? ⟨w.heap.size + 1 + 1 + 1, 1, none⟩ = some (.int .i64 0) := cell_of hpB 1
    have p2 : (World.setCells (w3.alloc (.cells #[.int .i64 0, .int .i64 0, .int .i64 0, .int .i64 0, .int .i64 0, .int .i64 0, .int .i64 0, .int .i64 0, .string ⟨#[]⟩, .bool false, .int .i64 0, .int .i64 0, .int .i64 0, .int .i64 0, .int .i64 0, .int .i64 0, .int .i64 0, .int .i64 0, .bool false] 77)) w3.heap.size 0 C.toList).cell? ⟨w.heap.size + 1 + 1 + 1, 2, none⟩ = some (.int .i64 0) := cell_of hpB 2
    have p3 : (World.setCells (w3.alloc (.cells #[.int .i64 0, .int .i64 0, .int .i64 0, .int .i64 0, .int .i64 0, .int .i64 0, .int .i64 0, .int .i64 0, .string ⟨#[]⟩, .bool false, .int .i64 0, .int .i64 0, .int .i64 0, .int .i64 0, .int .i64 0, .int .i64 0, .int .i64 0, .int .i64 0, .bool false] 77)) w3.heap.size 0 C.toList).cell? ⟨w.heap.size + 1 + 1 + 1, 3, none⟩ = some (.int .i64 0) := cell_of hpB 3
    have p4 : (World.setCells (w3.alloc (.cells #[.int .i64 0, .int .i64 0, .int .i64 0, .int .i64 0, .int .i64 0, .int .i64 0, .int .i64 0, .int .i64 0, .string ⟨#[]⟩, .bool false, .int .i64 0, .int .i64 0, .int .i64 0, .int .i64 0, .int .i64 0, .int .i64 0, .int .i64 0, .int .i64 0, .bool false] 77)) w3.heap.size 0 C.toList).cell? ⟨w.heap.size + 1 + 1 + 1, 4, none⟩ = some (.int .i64 0) := cell_of hpB 4
    have p5 : (World.setCells (w3.alloc (.cells #[.int .i64 0, .int .i64 0, .int .i64 0, .int .i64 0, .int .i64 0, .int .i64 0, .int .i64 0, .int .i64 0, .string ⟨#[]⟩, .bool false, .int .i64 0, .int .i64 0, .int .i64 0, .int .i64 0, .int .i64 0, .int .i64 0, .int .i64 0, .int .i64 0, .bool false] 77)) w3.heap.size 0 C.toList).cell? ⟨w.heap.size + 1 + 1 + 1, 5, none⟩ = some (.int .i64 0) := cell_of hpB 5
    have p6 : (World.setCells (w3.alloc (.cells #[.int .i64 0, .int .i64 0, .int .i64 0, .int .i64 0, .int .i64 0, .int .i64 0, .int .i64 0, .int .i64 0, .string ⟨#[]⟩, .bool false, .int .i64 0, .int .i64 0, .int .i64 0, .int .i64 0, .int .i64 0, .int .i64 0, .int .i64 0, .int .i64 0, .bool false] 77)) w3.heap.size 0 C.toList).cell? ⟨w.heap.size + 1 + 1 + 1, 6, none⟩ = some (.int .i64 0) := cell_of hpB 6
    have p7 : (World.setCells (w3.alloc (.cells #[.int .i64 0, .int .i64 0, .int .i64 0, .int .i64 0, .int .i64 0, .int .i64 0, .int .i64 0, .int .i64 0, .string ⟨#[]⟩, .bool false, .int .i64 0, .int .i64 0, .int .i64 0, .int .i64 0, .int .i64 0, .int .i64 0, .int .i64 0, .int .i64 0, .bool false] 77)) w3.heap.size 0 C.toList).cell? ⟨w.heap.size + 1 + 1 + 1, 7, none⟩ = some (.int .i64 0) := cell_of hpB 7
    have s5 : ∀ i, (World.setCells (w3.alloc (.cells #[.int .i64 0, .int .i64 0, .int .i64 0, .int .i64 0, .int .i64 0, .int .i64 0, .int .i64 0, .int .i64 0, .string ⟨#[]⟩, .bool false, .int .i64 0, .int .i64 0, .int .i64 0, .int .i64 0, .int .i64 0, .int .i64 0, .int .i64 0, .int .i64 0, .bool false] 77)) w3.heap.size 0 C.toList).frozen? ⟨w.heap.size + 1 + 1 + 1, i, none⟩ = false := fun i => frozen_of hpB i
    have z0 : (World.setCells (w3.alloc (.cells #[.int .i64 0, .int .i64 0, .int .i64 0, .int .i64 0, .int .i64 0, .int .i64 0, .int .i64 0, .int .i64 0, .string ⟨#[]⟩, .bool false, .int .i64 0, .int .i64 0, .int .i64 0, .int .i64 0, .int .i64 0, .int .i64 0, .int .i64 0, .int .i64 0, .bool false] 77)) w3.heap.size 0 C.toList).frozen? ⟨w.heap.size + 1 + 1 + 1, 0, none⟩ = false := s5 0
    have z1 : (World.setCells (w3.alloc (.cells #[.int .i64 0, .int .i64 0, .int .i64 0, .int .i64 0, .int .i64 0, .int .i64 0, .int .i64 0, .int .i64 0, .string ⟨#[]⟩, .bool false, .int .i64 0, .int .i64 0, .int .i64 0, .int .i64 0, .int .i64 0, .int .i64 0, .int .i64 0, .int .i64 0, .bool false] 77)) w3.heap.size 0 C.toList).frozen? ⟨w.heap.size + 1 + 1 + 1, 1, none⟩ = false := s5 1
    have z2 : (World.setCells (w3.alloc (.cells #[.int .i64 0, .int .i64 0, .int .i64 0, .int .i64 0, .int .i64 0, .int .i64 0, .int .i64 0, .int .i64 0, .string ⟨#[]⟩, .bool false, .int .i64 0, .int .i64 0, .int .i64 0, .int .i64 0, .int .i64 0, .int .i64 0, .int .i64 0, .int .i64 0, .bool false] 77)) w3.heap.size 0 C.toList).frozen? ⟨w.heap.size + 1 + 1 + 1, 2, none⟩ = false := s5 2
    have z3 : (World.setCells (w3.alloc (.cells #[.int .i64 0, .int .i64 0, .int .i64 0, .int .i64 0, .int .i64 0, .int .i64 0, .int .i64 0, .int .i64 0, .string ⟨#[]⟩, .bool false, .int .i64 0, .int .i64 0, .int .i64 0, .int .i64 0, .int .i64 0, .int .i64 0, .int .i64 0, .int .i64 0, .bool false] 77)) w3.heap.size 0 C.toList).frozen? ⟨w.heap.size + 1 + 1 + 1, 3, none⟩ = false := s5 3
    have z4 : (World.setCells (w3.alloc (.cells #[.int .i64 0, .int .i64 0, .int .i64 0, .int .i64 0, .int .i64 0, .int .i64 0, .int .i64 0, .int .i64 0, .string ⟨#[]⟩, .bool false, .int .i64 0, .int .i64 0, .int .i64 0, .int .i64 0, .int .i64 0, .int .i64 0, .int .i64 0, .int .i64 0, .bool false] 77)) w3.heap.size 0 C.toList).frozen? ⟨w.heap.size + 1 + 1 + 1, 4, none⟩ = false := s5 4
    have z5 : (World.setCells (w3.alloc (.cells #[.int .i64 0, .int .i64 0, .int .i64 0, .int .i64 0, .int .i64 0, .int .i64 0, .int .i64 0, .int .i64 0, .string ⟨#[]⟩, .bool false, .int .i64 0, .int .i64 0, .int .i64 0, .int .i64 0, .int .i64 0, .int .i64 0, .int .i64 0, .int .i64 0, .bool false] 77)) w3.heap.size 0 C.toList).frozen? ⟨w.heap.size + 1 + 1 + 1, 5, none⟩ = false := s5 5
    have z6 : (World.setCells (w3.alloc (.cells #[.int .i64 0, .int .i64 0, .int .i64 0, .int .i64 0, .int .i64 0, .int .i64 0, .int .i64 0, .int .i64 0, .string ⟨#[]⟩, .bool false, .int .i64 0, .int .i64 0, .int .i64 0, .int .i64 0, .int .i64 0, .int .i64 0, .int .i64 0, .int .i64 0, .bool false] 77)) w3.heap.size 0 C.toList).frozen? ⟨w.heap.size + 1 + 1 + 1, 6, none⟩ = false := s5 6
    have z7 : (World.setCells (w3.alloc (.cells #[.int .i64 0, .int .i64 0, .int .i64 0, .int .i64 0, .int .i64 0, .int .i64 0, .int .i64 0, .int .i64 0, .string ⟨#[]⟩, .bool false, .int .i64 0, .int .i64 0, .int .i64 0, .int .i64 0, .int .i64 0, .int .i64 0, .int .i64 0, .int .i64 0, .bool false] 77)) w3.heap.size 0 C.toList).frozen? ⟨w.heap.size + 1 + 1 + 1, 7, none⟩ = false := s5 7
    clear s5
    clear q1 q2 q3
    go_upto_region 22 with (refine wpList_store_mid rfl 77 _ _ rfl w3.heap.size 0 C rfl rfl hT hI h1C ?_; generalize World.setCells (w3.alloc (.cells #[.int .i64 0, .int .i64 0, .int .i64 0, .int .i64 0, .int .i64 0, .int .i64 0, .int .i64 0, .int .i64 0, .string ⟨#[]⟩, .bool false, .int .i64 0, .int .i64 0, .int .i64 0, .int .i64 0, .int .i64 0, .int .i64 0, .int .i64 0, .int .i64 0, .bool false] 77)) w3.heap.size 0 C.toList = W5 at s1 s2 s3 x9 x10 x11 x12 x13 x14 x15 x16 x17 x18 huB huL u0 u2 u3 haB haL a0 a1 a2 a3 a4 a5 a6 hpB hpL p0 p1 p2 p3 p4 p5 p6 p7 z0 z1 z2 z3 z4 z5 z6 z7 ⊢)
    have HB3 : Hid (Below w.heap.size w W5) := Lib.hid (HB.out.trans (s2.mono HB.out.size))
    have hb4 := below_set8 (R := w.heap.size + 1 + 1 + 1) (v0 := .int .i64 g0) (v1 := .int .i64 g1) (v2 := .int .i64 g2) (v3 := .int .i64 g3) (v4 := .int .i64 g4) (v5 := .int .i64 g5) (v6 := .int .i64 g6) (v7 := .int .i64 g7) HB3.out (by omega)
    have t3 := heap_set8 (v0 := .int .i64 g0) (v1 := .int .i64 g1) (v2 := .int .i64 g2) (v3 := .int .i64 g3) (v4 := .int .i64 g4) (v5 := .int .i64 g5) (v6 := .int .i64 g6) (v7 := .int .i64 g7) hpB
    have t1 := (heap_set8_other (R := w.heap.size + 1 + 1 + 1) (v0 := .int .i64 g0) (v1 := .int .i64 g1) (v2 := .int .i64 g2) (v3 := .int .i64 g3) (v4 := .int .i64 g4) (v5 := .int .i64 g5) (v6 := .int .i64 g6) (v7 := .int .i64 g7) (b := w.heap.size + 1) (by omega)).trans huB
    have t2 := (heap_set8_other (R := w.heap.size + 1 + 1 + 1) (v0 := .int .i64 g0) (v1 := .int .i64 g1) (v2 := .int .i64 g2) (v3 := .int .i64 g3) (v4 := .int .i64 g4) (v5 := .int .i64 g5) (v6 := .int .i64 g6) (v7 := .int .i64 g7) (b := w.heap.size + 1 + 1) (by omega)).trans haB
    clear x9 x10 x11 x12 x13 x14 x15 x16 x17 x18 hT hI h1C s1 s2 s3 huB haB hpB haL hpL huL p0 z0 p1 z1 p2 z2 p3 z3 p4 z4 p5 z5 p6 z6 p7 z7 a0 a1 a2 a3 a4 a5 a6 u0 u2 u3
    generalize ((((((((W5.setCell ⟨w.heap.size + 1 + 1 + 1, 0, none⟩ (.int .i64 g0)).setCell ⟨w.heap.size + 1 + 1 + 1, 1, none⟩ (.int .i64 g1)).setCell ⟨w.heap.size + 1 + 1 + 1, 2, none⟩ (.int .i64 g2)).setCell ⟨w.heap.size + 1 + 1 + 1, 3, none⟩ (.int .i64 g3)).setCell ⟨w.heap.size + 1 + 1 + 1, 4, none⟩ (.int .i64 g4)).setCell ⟨w.heap.size + 1 + 1 + 1, 5, none⟩ (.int .i64 g5)).setCell ⟨w.heap.size + 1 + 1 + 1, 6, none⟩ (.int .i64 g6)).setCell ⟨w.heap.size + 1 + 1 + 1, 7, none⟩ (.int .i64 g7)) = W6 at hb4 t3 t1 t2 ⊢
    have HB4 := Lib.hid hb4
    have y0 : W6.cell? ⟨w.heap.size + 1 + 1 + 1, 0, none⟩ = some (.int .i64 g0) := cell_of t3 0
    have y1 : W6.cell? ⟨w.heap.size + 1 + 1 + 1, 1, none⟩ = some (.int .i64 g1) := cell_of t3 1
    have y2 : W6.cell? ⟨w.heap.size + 1 + 1 + 1, 2, none⟩ = some (.int .i64 g2) := cell_of t3 2
    have y3 : W6.cell? ⟨w.heap.size + 1 + 1 + 1, 3, none⟩ = some (.int .i64 g3) := cell_of t3 3
    have y4 : W6.cell? ⟨w.heap.size + 1 + 1 + 1, 4, none⟩ = some (.int .i64 g4) := cell_of t3 4
    have y5 : W6.cell? ⟨w.heap.size + 1 + 1 + 1, 5, none⟩ = some (.int .i64 g5) := cell_of t3 5
    have y6 : W6.cell? ⟨w.heap.size + 1 + 1 + 1, 6, none⟩ = some (.int .i64 g6) := cell_of t3 6
    have y7 : W6.cell? ⟨w.heap.size + 1 + 1 + 1, 7, none⟩ = some (.int .i64 g7) := cell_of t3 7
    have u0 : W6.cell? ⟨w.heap.size + 1, 0, none⟩ = some (.int .i64 want) := cell_of t1 0
    have u3 : W6.cell? ⟨w.heap.size + 1, 3, none⟩ = some (.bool empty) := cell_of t1 3
    have a0 : W6.cell? ⟨w.heap.size + 1 + 1, 0, none⟩ = some (.pointer (some ⟨t, 0, none⟩)) := cell_of t2 0
    have a1 : W6.cell? ⟨w.heap.size + 1 + 1, 1, none⟩ = some (.int .i64 cwd) := cell_of t2 1
    have a2 : W6.cell? ⟨w.heap.size + 1 + 1, 2, none⟩ = some (.int .i64 c.real) := cell_of t2 2
    have a3 : W6.cell? ⟨w.heap.size + 1 + 1, 3, none⟩ = some (.int .i64 c.eff) := cell_of t2 3
    have a4 : W6.cell? ⟨w.heap.size + 1 + 1, 4, none⟩ = some (.int .i64 c.saved) := cell_of t2 4
    have a5 : W6.cell? ⟨w.heap.size + 1 + 1, 5, none⟩ = some (.int .i64 c.group) := cell_of t2 5
    have a6 : W6.cell? ⟨w.heap.size + 1 + 1, 6, none⟩ = some (.int .i64 c.eg) := cell_of t2 6
    have T3 := Lib.hid t3
    have T1 := Lib.hid t1
    clear hb4 t3 t1 t2
    go_wp2_with fail
    refine (HM.out _).mono ?_
    rintro e w5 ⟨rfl, hb5⟩
    have HB5 : Hid (Below w.heap.size w w5) := Lib.hid (HB4.out.trans (hb5.mono HB4.out.size))
    have t3 := (hb5.block (w.heap.size + 1 + 1 + 1) (lt_of_heap T3.out)).trans T3.out
    have t1 := (hb5.block (w.heap.size + 1) (lt_of_heap T1.out)).trans T1.out
    clear hb5 T3 T1 y0 y1 y2 y3 y4 y5 y6 y7 u0 u3 a0 a1 a2 a3 a4 a5 a6
    cases hmy : mayN q c want with
    | false =>
      have HMY := Lib.hid hmy
      clear hmy t1 t3
      go_wp2
      go_ret2
      refine ⟨0, 4, rfl, Stp.keepB H.out HB5.out (HL.out _ _ _ ⟨q, HQ.out, ?_⟩)⟩
      rw [if_neg (fun hh => by have := HW.out.symm.trans hh.1; cases this), if_pos HMY.out]
      exact ⟨rfl, rfl, rfl⟩
    | true =>
      have HMY := Lib.hid hmy
      have y0 : w5.cell? ⟨w.heap.size + 1 + 1 + 1, 0, none⟩ = some (.int .i64 g0) := cell_of t3 0
      have T3 := Lib.hid t3
      have T1 := Lib.hid t1
      clear hmy t1 t3
      go_wp2_with fail
      refine (hold_any (H.out.mv ((Mv.refl H.out.rep).below HB5.out)) (HH.out.mono (by decide)) g0).mono ?_
      rintro e w6 ⟨b, rfl, hs⟩
      obtain ⟨S1, T1x, m1, ht1, hr1⟩ := hs.tre fun T' hT' => hT'.sound H.out.snd
      have fr3 : Fr w5 t S (w.heap.size + 1 + 1 + 1) := Fr.new H.out.rep (by omega) (lt_of_heap T3.out)
      have fr1 : Fr w5 t S (w.heap.size + 1) := Fr.new H.out.rep (by omega) (lt_of_heap T1.out)
      have z3 := (fr3.heap m1).trans T3.out
      have z1 := (fr1.heap m1).trans T1.out
      have y0 : w6.cell? ⟨w.heap.size + 1 + 1 + 1, 0, none⟩ = some (.int .i64 g0) := cell_of z3 0
      have y1 : w6.cell? ⟨w.heap.size + 1 + 1 + 1, 1, none⟩ = some (.int .i64 g1) := cell_of z3 1
      have y3 : w6.cell? ⟨w.heap.size + 1, 3, none⟩ = some (.bool empty) := cell_of z1 3
      have FR3 := Lib.hid (fr3.mv m1)
      have Z3 := Lib.hid z3
      have HG1 := Lib.hid (((Mv.refl H.out.rep).below HB5.out).trans m1)
      have HT1 := Lib.hid ht1
      have HR1 : Hid (IT.isHold T j b T1x) := Lib.hid (by rw [← HD.out.1] at hr1; exact hr1)
      clear hs m1 ht1 hr1 fr3 fr1 z3 z1
      have hleaf : ∀ (T' : IT.Tr), (if empty = true ∧ (bits BinOp.and .i64 want 2 != 0) = true ∧ q.kind = 0 then ∃ r2 T2, IT.isCut T1x j r2 T2 ∧ isPlainer T2 j T' else T' = T1x) → isOpen T c cwd (bs s) ⟨want, true, false, empty, fin, mode⟩ j 0 T' := fun T' hl => by
        refine HL.out _ _ _ ⟨q, HQ.out, ?_⟩
        rw [if_neg (fun hh => by have := HW.out.symm.trans hh.1; cases this), if_neg (by rw [HMY.out]; decide)]
        exact ⟨rfl, rfl, b, T1x, HR1.out, hl⟩
      have HLF := Lib.hid hleaf
      clear hleaf
      cases empty <;>
      · go_wp2
        go_ret2
        exact ⟨j, 0, by rw [HD.out.1]; rfl, S1, T1x, HG1.out, HT1.out.ties, HLF.out _ (by rw [if_neg (fun hh => by have := HW.out.symm.trans hh.2.1; cases this)])⟩
  | true =>
    have HW := Lib.hid hw
    by_cases hk : q.kind = 1
    · have HK := Lib.hid hk
      obtain rfl : g1 = 1 := HD.out.2.1.symm.trans hk
      clear hk HM
      have HCX9 : Hid (C[9]? = some (.bool false)) := Lib.hid (by rw [hC]; rfl)
      have HCX10 : Hid (C[10]? = some (.int .i64 g0)) := Lib.hid (by rw [hC]; rfl)
      have HCX11 : Hid (C[11]? = some (.int .i64 1)) := Lib.hid (by rw [hC]; rfl)
      have HCX12 : Hid (C[12]? = some (.int .i64 g2)) := Lib.hid (by rw [hC]; rfl)
      have HCX13 : Hid (C[13]? = some (.int .i64 g3)) := Lib.hid (by rw [hC]; rfl)
      have HCX14 : Hid (C[14]? = some (.int .i64 g4)) := Lib.hid (by rw [hC]; rfl)
      have HCX15 : Hid (C[15]? = some (.int .i64 g5)) := Lib.hid (by rw [hC]; rfl)
      have HCX16 : Hid (C[16]? = some (.int .i64 g6)) := Lib.hid (by rw [hC]; rfl)
      have HCX17 : Hid (C[17]? = some (.int .i64 g7)) := Lib.hid (by rw [hC]; rfl)
      have HCX18 : Hid (C[18]? = some (.bool true)) := Lib.hid (by rw [hC]; rfl)
      clear h hh ho he hC hq hm
      unfold cred howV
      unfold ask at HC
      go_enter Try.func15, Try.ntmps15
      go_wp2_with fail
      refine (HR.out _).mono ?_
      rintro e w2 ⟨rfl, rfl⟩
      go_wp2_with fail
      refine (HC.out _ (belowA (belowA (belowA (belowA (Below.refl _ _) _) _) _) _)).mono ?_
      rintro e w3 ⟨rfl, hb⟩
      obtain ⟨_, q1, q2, q3, hlt, hbb⟩ := four_blocks hb
      have HB := Lib.hid hbb
      have hlt1 : w.heap.size + 1 < w3.heap.size := by omega
      have hlt2 : w.heap.size + 1 + 1 < w3.heap.size := by omega
      clear hb hbb HC HR
      obtain ⟨s1, s2, s3⟩ := stored_whole (w3 := w3) (Z := #[.int .i64 0, .int .i64 0, .int .i64 0, .int .i64 0, .int .i64 0, .int .i64 0, .int .i64 0, .int .i64 0, .string ⟨#[]⟩, .bool false, .int .i64 0, .int .i64 0, .int .i64 0, .int .i64 0, .int .i64 0, .int .i64 0, .int .i64 0, .int .i64 0, .bool false]) (C := C) (TY := 77) HCS.out
      have hT : (w3.alloc (.cells #[.int .i64 0, .int .i64 0, .int .i64 0, .int .i64 0, .int .i64 0, .int .i64 0, .int .i64 0, .int .i64 0, .string ⟨#[]⟩, .bool false, .int .i64 0, .int .i64 0, .int .i64 0, .int .i64 0, .int .i64 0, .int .i64 0, .int .i64 0, .int .i64 0, .bool false] 77)).there w3.heap.size 0 C.size := by rw [HCS.out]; exact there_of (alloc_heap w3 _)
      have hI : (Try.prog.info? 77).map (·.size) = some C.size := by rw [HCS.out]; rfl
      have h1C := HC1.out
      have x9 : (World.setCells (w3.alloc (.cells #[.int .i64 0, .int .i64 0, .int .i64 0, .int .i64 0, .int .i64 0, .int .i64 0, .int .i64 0, .int .i64 0, .string ⟨#[]⟩, .bool false, .int .i64 0, .int .i64 0, .int .i64 0, .int .i64 0, .int .i64 0, .int .i64 0, .int .i64 0, .int .i64 0, .bool false] 77)) w3.heap.size 0 C.toList).cell? ⟨w3.heap.size, 9, none⟩ = some (.bool false) := (cell_of s1 9).trans HCX9.out
      have x10 : (World.setCells (w3.alloc (.cells #[.int .i64 0, .int .i64 0, .int .i64 0, .int .i64 0, .int .i64 0, .int .i64 0, .int .i64 0, .int .i64 0, .string ⟨#[]⟩, .bool false, .int .i64 0, .int .i64 0, .int .i64 0, .int .i64 0, .int .i64 0, .int .i64 0, .int .i64 0, .int .i64 0, .bool false] 77)) w3.heap.size 0 C.toList).cell? ⟨w3.heap.size, 10, none⟩ = some (.int .i64 g0) := (cell_of s1 10).trans HCX10.out
      have x11 : (World.setCells (w3.alloc (.cells #[.int .i64 0, .int .i64 0, .int .i64 0, .int .i64 0, .int .i64 0, .int .i64 0, .int .i64 0, .int .i64 0, .string ⟨#[]⟩, .bool false, .int .i64 0, .int .i64 0, .int .i64 0, .int .i64 0, .int .i64 0, .int .i64 0, .int .i64 0, .int .i64 0, .bool false] 77)) w3.heap.size 0 C.toList).cell? ⟨w3.heap.size, 11, none⟩ = some (.int .i64 1) := (cell_of s1 11).trans HCX11.out
      have x12 : (World.setCells (w3.alloc (.cells #[.int .i64 0, .int .i64 0, .int .i64 0, .int .i64 0, .int .i64 0, .int .i64 0, .int .i64 0, .int .i64 0, .string ⟨#[]⟩, .bool false, .int .i64 0, .int .i64 0, .int .i64 0, .int .i64 0, .int .i64 0, .int .i64 0, .int .i64 0, .int .i64 0, .bool false] 77)) w3.heap.size 0 C.toList).cell? ⟨w3.heap.size, 12, none⟩ = some (.int .i64 g2) := (cell_of s1 12).trans HCX12.out
      have x13 : (World.setCells (w3.alloc (.cells #[.int .i64 0, .int .i64 0, .int .i64 0, .int .i64 0, .int .i64 0, .int .i64 0, .int .i64 0, .int .i64 0, .string ⟨#[]⟩, .bool false, .int .i64 0, .int .i64 0, .int .i64 0, .int .i64 0, .int .i64 0, .int .i64 0, .int .i64 0, .int .i64 0, .bool false] 77)) w3.heap.size 0 C.toList).cell? ⟨w3.heap.size, 13, none⟩ = some (.int .i64 g3) := (cell_of s1 13).trans HCX13.out
      have x14 : (World.setCells (w3.alloc (.cells #[.int .i64 0, .int .i64 0, .int .i64 0, .int .i64 0, .int .i64 0, .int .i64 0, .int .i64 0, .int .i64 0, .string ⟨#[]⟩, .bool false, .int .i64 0, .int .i64 0, .int .i64 0, .int .i64 0, .int .i64 0, .int .i64 0, .int .i64 0, .int .i64 0, .bool false] 77)) w3.heap.size 0 C.toList).cell? ⟨w3.heap.size, 14, none⟩ = some (.int .i64 g4) := (cell_of s1 14).trans HCX14.out
      have x15 : (World.setCells (w3.alloc (.cells #[.int .i64 0, .int .i64 0, .int .i64 0, .int .i64 0, .int .i64 0, .int .i64 0, .int .i64 0, .int .i64 0, .string ⟨#[]⟩, .bool false, .int .i64 0, .int .i64 0, .int .i64 0, .int .i64 0, .int .i64 0, .int .i64 0, .int .i64 0, .int .i64 0, .bool false] 77)) w3.heap.size 0 C.toList).cell? ⟨w3.heap.size, 15, none⟩ = some (.int .i64 g5) := (cell_of s1 15).trans HCX15.out
      have x16 : (World.setCells (w3.alloc (.cells #[.int .i64 0, .int .i64 0, .int .i64 0, .int .i64 0, .int .i64 0, .int .i64 0, .int .i64 0, .int .i64 0, .string ⟨#[]⟩, .bool false, .int .i64 0, .int .i64 0, .int .i64 0, .int .i64 0, .int .i64 0, .int .i64 0, .int .i64 0, .int .i64 0, .bool false] 77)) w3.heap.size 0 C.toList).cell? ⟨w3.heap.size, 16, none⟩ = some (.int .i64 g6) := (cell_of s1 16).trans HCX16.out
      have x17 : (World.setCells (w3.alloc (.cells #[.int .i64 0, .int .i64 0, .int .i64 0, .int .i64 0, .int .i64 0, .int .i64 0, .int .i64 0, .int .i64 0, .string ⟨#[]⟩, .bool false, .int .i64 0, .int .i64 0, .int .i64 0, .int .i64 0, .int .i64 0, .int .i64 0, .int .i64 0, .int .i64 0, .bool false] 77)) w3.heap.size 0 C.toList).cell? ⟨w3.heap.size, 17, none⟩ = some (.int .i64 g7) := (cell_of s1 17).trans HCX17.out
      have x18 : (World.setCells (w3.alloc (.cells #[.int .i64 0, .int .i64 0, .int .i64 0, .int .i64 0, .int .i64 0, .int .i64 0, .int .i64 0, .int .i64 0, .string ⟨#[]⟩, .bool false, .int .i64 0, .int .i64 0, .int .i64 0, .int .i64 0, .int .i64 0, .int .i64 0, .int .i64 0, .int .i64 0, .bool false] 77)) w3.heap.size 0 C.toList).cell? ⟨w3.heap.size, 18, none⟩ = some (.bool true) := (cell_of s1 18).trans HCX18.out
      have huB := (s2.block _ hlt1).trans q1
      have huL : w.heap.size + 1 < (World.setCells (w3.alloc (.cells #[.int .i64 0, .int .i64 0, .int .i64 0, .int .i64 0, .int .i64 0, .int .i64 0, .int .i64 0, .int .i64 0, .string ⟨#[]⟩, .bool false, .int .i64 0, .int .i64 0, .int .i64 0, .int .i64 0, .int .i64 0, .int .i64 0, .int .i64 0, .int .i64 0, .bool false] 77)) w3.heap.size 0 C.toList).heap.size := by have := hlt1; omega
      have u0 : (World.setCells (w3.alloc (.cells #[.int .i64 0, .int .i64 0, .int .i64 0, .int .i64 0, .int .i64 0, .int .i64 0, .int .i64 0, .int .i64 0, .string ⟨#[]⟩, .bool false, .int .i64 0, .int .i64 0, .int .i64 0, .int .i64 0, .int .i64 0, .int .i64 0, .int .i64 0, .int .i64 0, .bool false] 77)) w3.heap.size 0 C.toList).cell? ⟨w.heap.size + 1, 0, none⟩ = some (.int .i64 want) := cell_of huB 0
      have u2 : (World.setCells (w3.alloc (.cells #[.int .i64 0, .int .i64 0, .int .i64 0, .int .i64 0, .int .i64 0, .int .i64 0, .int .i64 0, .int .i64 0, .string ⟨#[]⟩, .bool false, .int .i64 0, .int .i64 0, .int .i64 0, .int .i64 0, .int .i64 0, .int .i64 0, .int .i64 0, .int .i64 0, .bool false] 77)) w3.heap.size 0 C.toList).cell? ⟨w.heap.size + 1, 2, none⟩ = some (.bool false) := cell_of huB 2
      have u3 : (World.setCells (w3.alloc (.cells #[.int .i64 0, .int .i64 0, .int .i64 0, .int .i64 0, .int .i64 0, .int .i64 0, .int .i64 0, .int .i64 0, .string ⟨#[]⟩, .bool false, .int .i64 0, .int .i64 0, .int .i64 0, .int .i64 0, .int .i64 0, .int .i64 0, .int .i64 0, .int .i64 0, .bool false] 77)) w3.heap.size 0 C.toList).cell? ⟨w.heap.size + 1, 3, none⟩ = some (.bool empty) := cell_of huB 3
      have haB := (s2.block _ hlt2).trans q2
      have haL : w.heap.size + 1 + 1 < (World.setCells (w3.alloc (.cells #[.int .i64 0, .int .i64 0, .int .i64 0, .int .i64 0, .int .i64 0, .int .i64 0, .int .i64 0, .int .i64 0, .string ⟨#[]⟩, .bool false, .int .i64 0, .int .i64 0, .int .i64 0, .int .i64 0, .int .i64 0, .int .i64 0, .int .i64 0, .int .i64 0, .bool false] 77)) w3.heap.size 0 C.toList).heap.size := by have := hlt2; omega
      have a0 : (World.setCells (w3.alloc (.cells #[.int .i64 0, .int .i64 0, .int .i64 0, .int .i64 0, .int .i64 0, .int .i64 0, .int .i64 0, .int .i64 0, .string ⟨#[]⟩, .bool false, .int .i64 0, .int .i64 0, .int .i64 0, .int .i64 0, .int .i64 0, .int .i64 0, .int .i64 0, .int .i64 0, .bool false] 77)) w3.heap.size 0 C.toList).cell? ⟨w.heap.size + 1 + 1, 0, none⟩ = some (.pointer (some ⟨t, 0, none⟩)) := cell_of haB 0
      have a1 : (World.setCells (w3.alloc (.cells #[.int .i64 0, .int .i64 0, .int .i64 0, .int .i64 0, .int .i64 0, .int .i64 0, .int .i64 0, .int .i64 0, .string ⟨#[]⟩, .bool false, .int .i64 0, .int .i64 0, .int .i64 0, .int .i64 0, .int .i64 0, .int .i64 0, .int .i64 0, .int .i64 0, .bool false] 77)) w3.heap.size 0 C.toList).cell? ⟨w.heap.size + 1 + 1, 1, none⟩ = some (.int .i64 cwd) := cell_of haB 1
      have a2 : (World.setCells (w3.alloc (.cells #[.int .i64 0, .int .i64 0, .int .i64 0, .int .i64 0, .int .i64 0, .int .i64 0, .int .i64 0, .int .i64 0, .string ⟨#[]⟩, .bool false, .int .i64 0, .int .i64 0, .int .i64 0, .int .i64 0, .int .i64 0, .int .i64 0, .int .i64 0, .int .i64 0, .bool false] 77)) w3.heap.size 0 C.toList).cell? ⟨w.heap.size + 1 + 1, 2, none⟩ = some (.int .i64 c.real) := cell_of haB 2
      have a3 : (World.setCells (w3.alloc (.cells #[.int .i64 0, .int .i64 0, .int .i64 0, .int .i64 0, .int .i64 0, .int .i64 0, .int .i64 0, .int .i64 0, .string ⟨#[]⟩, .bool false, .int .i64 0, .int .i64 0, .int .i64 0, .int .i64 0, .int .i64 0, .int .i64 0, .int .i64 0, .int .i64 0, .bool false] 77)) w3.heap.size 0 C.toList).cell? ⟨w.heap.size + 1 + 1, 3, none⟩ = some (.int .i64 c.eff) := cell_of haB 3
      have a4 : (World.setCells (w3.alloc (.cells #[.int .i64 0, .int .i64 0, .int .i64 0, .int .i64 0, .int .i64 0, .int .i64 0, .int .i64 0, .int .i64 0, .string ⟨#[]⟩, .bool false, .int .i64 0, .int .i64 0, .int .i64 0, .int .i64 0, .int .i64 0, .int .i64 0, .int .i64 0, .int .i64 0, .bool false] 77)) w3.heap.size 0 C.toList).cell? ⟨w.heap.size + 1 + 1, 4, none⟩ = some (.int .i64 c.saved) := cell_of haB 4
      have a5 : (World.setCells (w3.alloc (.cells #[.int .i64 0, .int .i64 0, .int .i64 0, .int .i64 0, .int .i64 0, .int .i64 0, .int .i64 0, .int .i64 0, .string ⟨#[]⟩, .bool false, .int .i64 0, .int .i64 0, .int .i64 0, .int .i64 0, .int .i64 0, .int .i64 0, .int .i64 0, .int .i64 0, .bool false] 77)) w3.heap.size 0 C.toList).cell? ⟨w.heap.size + 1 + 1, 5, none⟩ = some (.int .i64 c.group) := cell_of haB 5
      have a6 : (World.setCells (w3.alloc (.cells #[.int .i64 0, .int .i64 0, .int .i64 0, .int .i64 0, .int .i64 0, .int .i64 0, .int .i64 0, .int .i64 0, .string ⟨#[]⟩, .bool false, .int .i64 0, .int .i64 0, .int .i64 0, .int .i64 0, .int .i64 0, .int .i64 0, .int .i64 0, .int .i64 0, .bool false] 77)) w3.heap.size 0 C.toList).cell? ⟨w.heap.size + 1 + 1, 6, none⟩ = some (.int .i64 c.eg) := cell_of haB 6
      have hpB := (s2.block _ hlt).trans q3
      have hpL : w.heap.size + 1 + 1 + 1 < (World.setCells (w3.alloc (.cells #[.int .i64 0, .int .i64 0, .int .i64 0, .int .i64 0, .int .i64 0, .int .i64 0, .int .i64 0, .int .i64 0, .string ⟨#[]⟩, .bool false, .int .i64 0, .int .i64 0, .int .i64 0, .int .i64 0, .int .i64 0, .int .i64 0, .int .i64 0, .int .i64 0, .bool false] 77)) w3.heap.size 0 C.toList).heap.size := by have := hlt; omega
      have p0 : (World.setCells (w3.alloc (.cells #[.int .i64 0, .int .i64 0, .int .i64 0, .int .i64 0, .int .i64 0, .int .i64 0, .int .i64 0, .int .i64 0, .string ⟨#[]⟩, .bool false, .int .i64 0, .int .i64 0, .int .i64 0, .int .i64 0, .int .i64 0, .int .i64 0, .int .i64 0, .int .i64 0, .bool false] 77)) w3.heap.size 0 C.toList).cell? ⟨w.heap.size + 1 + 1 + 1, 0, none⟩ = some (.int .i64 0) := cell_of hpB 0
      have p1 : (World.setCells (w3.alloc (.cells #[.int .i64 0, .int .i64 0, .int .i64 0, .int .i64 0, .int .i64 0, .int .i64 0, .int .i64 0, .int .i64 0, .string ⟨#[]⟩, .bool false, .int .i64 0, .int .i64 0, .int .i64 0, .int .i64 0, .int .i64 0, .int .i64 0, .int .i64 0, .int .i64 0, .bool false] 77)) w3.heap.size 0 C.toList).cell? ⟨w.heap.size + 1 + 1 + 1, 1, none⟩ = some (.int .i64 0) := cell_of hpB 1
      have p2 : (World.setCells (w3.alloc (.cells #[.int .i64 0, .int .i64 0, .int .i64 0, .int .i64 0, .int .i64 0, .int .i64 0, .int .i64 0, .int .i64 0, .string ⟨#[]⟩, .bool false, .int .i64 0, .int .i64 0, .int .i64 0, .int .i64 0, .int .i64 0, .int .i64 0, .int .i64 0, .int .i64 0, .bool false] 77)) w3.heap.size 0 C.toList).cell? ⟨w.heap.size + 1 + 1 + 1, 2, none⟩ = some (.int .i64 0) := cell_of hpB 2
      have p3 : (World.setCells (w3.alloc (.cells #[.int .i64 0, .int .i64 0, .int .i64 0, .int .i64 0, .int .i64 0, .int .i64 0, .int .i64 0, .int .i64 0, .string ⟨#[]⟩, .bool false, .int .i64 0, .int .i64 0, .int .i64 0, .int .i64 0, .int .i64 0, .int .i64 0, .int .i64 0, .int .i64 0, .bool false] 77)) w3.heap.size 0 C.toList).cell? ⟨w.heap.size + 1 + 1 + 1, 3, none⟩ = some (.int .i64 0) := cell_of hpB 3
      have p4 : (World.setCells (w3.alloc (.cells #[.int .i64 0, .int .i64 0, .int .i64 0, .int .i64 0, .int .i64 0, .int .i64 0, .int .i64 0, .int .i64 0, .string ⟨#[]⟩, .bool false, .int .i64 0, .int .i64 0, .int .i64 0, .int .i64 0, .int .i64 0, .int .i64 0, .int .i64 0, .int .i64 0, .bool false] 77)) w3.heap.size 0 C.toList).cell? ⟨w.heap.size + 1 + 1 + 1, 4, none⟩ = some (.int .i64 0) := cell_of hpB 4
      have p5 : (World.setCells (w3.alloc (.cells #[.int .i64 0, .int .i64 0, .int .i64 0, .int .i64 0, .int .i64 0, .int .i64 0, .int .i64 0, .int .i64 0, .string ⟨#[]⟩, .bool false, .int .i64 0, .int .i64 0, .int .i64 0, .int .i64 0, .int .i64 0, .int .i64 0, .int .i64 0, .int .i64 0, .bool false] 77)) w3.heap.size 0 C.toList).cell? ⟨w.heap.size + 1 + 1 + 1, 5, none⟩ = some (.int .i64 0) := cell_of hpB 5
      have p6 : (World.setCells (w3.alloc (.cells #[.int .i64 0, .int .i64 0, .int .i64 0, .int .i64 0, .int .i64 0, .int .i64 0, .int .i64 0, .int .i64 0, .string ⟨#[]⟩, .bool false, .int .i64 0, .int .i64 0, .int .i64 0, .int .i64 0, .int .i64 0, .int .i64 0, .int .i64 0, .int .i64 0, .bool false] 77)) w3.heap.size 0 C.toList).cell? ⟨w.heap.size + 1 + 1 + 1, 6, none⟩ = some (.int .i64 0) := cell_of hpB 6
      have p7 : (World.setCells (w3.alloc (.cells #[.int .i64 0, .int .i64 0, .int .i64 0, .int .i64 0, .int .i64 0, .int .i64 0, .int .i64 0, .int .i64 0, .string ⟨#[]⟩, .bool false, .int .i64 0, .int .i64 0, .int .i64 0, .int .i64 0, .int .i64 0, .int .i64 0, .int .i64 0, .int .i64 0, .bool false] 77)) w3.heap.size 0 C.toList).cell? ⟨w.heap.size + 1 + 1 + 1, 7, none⟩ = some (.int .i64 0) := cell_of hpB 7
      have s5 : ∀ i, (World.setCells (w3.alloc (.cells #[.int .i64 0, .int .i64 0, .int .i64 0, .int .i64 0, .int .i64 0, .int .i64 0, .int .i64 0, .int .i64 0, .string ⟨#[]⟩, .bool false, .int .i64 0, .int .i64 0, .int .i64 0, .int .i64 0, .int .i64 0, .int .i64 0, .int .i64 0, .int .i64 0, .bool false] 77)) w3.heap.size 0 C.toList).frozen? ⟨w.heap.size + 1 + 1 + 1, i, none⟩ = false := fun i => frozen_of hpB i
      have z0 : (World.setCells (w3.alloc (.cells #[.int .i64 0, .int .i64 0, .int .i64 0, .int .i64 0, .int .i64 0, .int .i64 0, .int .i64 0, .int .i64 0, .string ⟨#[]⟩, .bool false, .int .i64 0, .int .i64 0, .int .i64 0, .int .i64 0, .int .i64 0, .int .i64 0, .int .i64 0, .int .i64 0, .bool false] 77)) w3.heap.size 0 C.toList).frozen? ⟨w.heap.size + 1 + 1 + 1, 0, none⟩ = false := s5 0
      have z1 : (World.setCells (w3.alloc (.cells #[.int .i64 0, .int .i64 0, .int .i64 0, .int .i64 0, .int .i64 0, .int .i64 0, .int .i64 0, .int .i64 0, .string ⟨#[]⟩, .bool false, .int .i64 0, .int .i64 0, .int .i64 0, .int .i64 0, .int .i64 0, .int .i64 0, .int .i64 0, .int .i64 0, .bool false] 77)) w3.heap.size 0 C.toList).frozen? ⟨w.heap.size + 1 + 1 + 1, 1, none⟩ = false := s5 1
      have z2 : (World.setCells (w3.alloc (.cells #[.int .i64 0, .int .i64 0, .int .i64 0, .int .i64 0, .int .i64 0, .int .i64 0, .int .i64 0, .int .i64 0, .string ⟨#[]⟩, .bool false, .int .i64 0, .int .i64 0, .int .i64 0, .int .i64 0, .int .i64 0, .int .i64 0, .int .i64 0, .int .i64 0, .bool false] 77)) w3.heap.size 0 C.toList).frozen? ⟨w.heap.size + 1 + 1 + 1, 2, none⟩ = false := s5 2
      have z3 : (World.setCells (w3.alloc (.cells #[.int .i64 0, .int .i64 0, .int .i64 0, .int .i64 0, .int .i64 0, .int .i64 0, .int .i64 0, .int .i64 0, .string ⟨#[]⟩, .bool false, .int .i64 0, .int .i64 0, .int .i64 0, .int .i64 0, .int .i64 0, .int .i64 0, .int .i64 0, .int .i64 0, .bool false] 77)) w3.heap.size 0 C.toList).frozen? ⟨w.heap.size + 1 + 1 + 1, 3, none⟩ = false := s5 3
      have z4 : (World.setCells (w3.alloc (.cells #[.int .i64 0, .int .i64 0, .int .i64 0, .int .i64 0, .int .i64 0, .int .i64 0, .int .i64 0, .int .i64 0, .string ⟨#[]⟩, .bool false, .int .i64 0, .int .i64 0, .int .i64 0, .int .i64 0, .int .i64 0, .int .i64 0, .int .i64 0, .int .i64 0, .bool false] 77)) w3.heap.size 0 C.toList).frozen? ⟨w.heap.size + 1 + 1 + 1, 4, none⟩ = false := s5 4
      have z5 : (World.setCells (w3.alloc (.cells #[.int .i64 0, .int .i64 0, .int .i64 0, .int .i64 0, .int .i64 0, .int .i64 0, .int .i64 0, .int .i64 0, .string ⟨#[]⟩, .bool false, .int .i64 0, .int .i64 0, .int .i64 0, .int .i64 0, .int .i64 0, .int .i64 0, .int .i64 0, .int .i64 0, .bool false] 77)) w3.heap.size 0 C.toList).frozen? ⟨w.heap.size + 1 + 1 + 1, 5, none⟩ = false := s5 5
      have z6 : (World.setCells (w3.alloc (.cells #[.int .i64 0, .int .i64 0, .int .i64 0, .int .i64 0, .int .i64 0, .int .i64 0, .int .i64 0, .int .i64 0, .string ⟨#[]⟩, .bool false, .int .i64 0, .int .i64 0, .int .i64 0, .int .i64 0, .int .i64 0, .int .i64 0, .int .i64 0, .int .i64 0, .bool false] 77)) w3.heap.size 0 C.toList).frozen? ⟨w.heap.size + 1 + 1 + 1, 6, none⟩ = false := s5 6
      have z7 : (World.setCells (w3.alloc (.cells #[.int .i64 0, .int .i64 0, .int .i64 0, .int .i64 0, .int .i64 0, .int .i64 0, .int .i64 0, .int .i64 0, .string ⟨#[]⟩, .bool false, .int .i64 0, .int .i64 0, .int .i64 0, .int .i64 0, .int .i64 0, .int .i64 0, .int .i64 0, .int .i64 0, .bool false] 77)) w3.heap.size 0 C.toList).frozen? ⟨w.heap.size + 1 + 1 + 1, 7, none⟩ = false := s5 7
      clear s5
      clear q1 q2 q3
      go_upto_region 22 with (refine wpList_store_mid rfl 77 _ _ rfl w3.heap.size 0 C rfl rfl hT hI h1C ?_; generalize World.setCells (w3.alloc (.cells #[.int .i64 0, .int .i64 0, .int .i64 0, .int .i64 0, .int .i64 0, .int .i64 0, .int .i64 0, .int .i64 0, .string ⟨#[]⟩, .bool false, .int .i64 0, .int .i64 0, .int .i64 0, .int .i64 0, .int .i64 0, .int .i64 0, .int .i64 0, .int .i64 0, .bool false] 77)) w3.heap.size 0 C.toList = W5 at s1 s2 s3 x9 x10 x11 x12 x13 x14 x15 x16 x17 x18 huB huL u0 u2 u3 haB haL a0 a1 a2 a3 a4 a5 a6 hpB hpL p0 p1 p2 p3 p4 p5 p6 p7 z0 z1 z2 z3 z4 z5 z6 z7 ⊢)
      have HB3 : Hid (Below w.heap.size w W5) := Lib.hid (HB.out.trans (s2.mono HB.out.size))
      have hb4 := below_set8 (R := w.heap.size + 1 + 1 + 1) (v0 := .int .i64 g0) (v1 := .int .i64 1) (v2 := .int .i64 g2) (v3 := .int .i64 g3) (v4 := .int .i64 g4) (v5 := .int .i64 g5) (v6 := .int .i64 g6) (v7 := .int .i64 g7) HB3.out (by omega)
      have t3 := heap_set8 (v0 := .int .i64 g0) (v1 := .int .i64 1) (v2 := .int .i64 g2) (v3 := .int .i64 g3) (v4 := .int .i64 g4) (v5 := .int .i64 g5) (v6 := .int .i64 g6) (v7 := .int .i64 g7) hpB
      have t1 := (heap_set8_other (R := w.heap.size + 1 + 1 + 1) (v0 := .int .i64 g0) (v1 := .int .i64 1) (v2 := .int .i64 g2) (v3 := .int .i64 g3) (v4 := .int .i64 g4) (v5 := .int .i64 g5) (v6 := .int .i64 g6) (v7 := .int .i64 g7) (b := w.heap.size + 1) (by omega)).trans huB
      have t2 := (heap_set8_other (R := w.heap.size + 1 + 1 + 1) (v0 := .int .i64 g0) (v1 := .int .i64 1) (v2 := .int .i64 g2) (v3 := .int .i64 g3) (v4 := .int .i64 g4) (v5 := .int .i64 g5) (v6 := .int .i64 g6) (v7 := .int .i64 g7) (b := w.heap.size + 1 + 1) (by omega)).trans haB
      clear x9 x10 x11 x12 x13 x14 x15 x16 x17 x18 hT hI h1C s1 s2 s3 huB haB hpB haL hpL huL p0 z0 p1 z1 p2 z2 p3 z3 p4 z4 p5 z5 p6 z6 p7 z7 a0 a1 a2 a3 a4 a5 a6 u0 u2 u3
      generalize ((((((((W5.setCell ⟨w.heap.size + 1 + 1 + 1, 0, none⟩ (.int .i64 g0)).setCell ⟨w.heap.size + 1 + 1 + 1, 1, none⟩ (.int .i64 1)).setCell ⟨w.heap.size + 1 + 1 + 1, 2, none⟩ (.int .i64 g2)).setCell ⟨w.heap.size + 1 + 1 + 1, 3, none⟩ (.int .i64 g3)).setCell ⟨w.heap.size + 1 + 1 + 1, 4, none⟩ (.int .i64 g4)).setCell ⟨w.heap.size + 1 + 1 + 1, 5, none⟩ (.int .i64 g5)).setCell ⟨w.heap.size + 1 + 1 + 1, 6, none⟩ (.int .i64 g6)).setCell ⟨w.heap.size + 1 + 1 + 1, 7, none⟩ (.int .i64 g7)) = W6 at hb4 t3 t1 t2 ⊢
      have HB4 := Lib.hid hb4
      have y0 : W6.cell? ⟨w.heap.size + 1 + 1 + 1, 0, none⟩ = some (.int .i64 g0) := cell_of t3 0
      have y1 : W6.cell? ⟨w.heap.size + 1 + 1 + 1, 1, none⟩ = some (.int .i64 1) := cell_of t3 1
      have y2 : W6.cell? ⟨w.heap.size + 1 + 1 + 1, 2, none⟩ = some (.int .i64 g2) := cell_of t3 2
      have y3 : W6.cell? ⟨w.heap.size + 1 + 1 + 1, 3, none⟩ = some (.int .i64 g3) := cell_of t3 3
      have y4 : W6.cell? ⟨w.heap.size + 1 + 1 + 1, 4, none⟩ = some (.int .i64 g4) := cell_of t3 4
      have y5 : W6.cell? ⟨w.heap.size + 1 + 1 + 1, 5, none⟩ = some (.int .i64 g5) := cell_of t3 5
      have y6 : W6.cell? ⟨w.heap.size + 1 + 1 + 1, 6, none⟩ = some (.int .i64 g6) := cell_of t3 6
      have y7 : W6.cell? ⟨w.heap.size + 1 + 1 + 1, 7, none⟩ = some (.int .i64 g7) := cell_of t3 7
      have u0 : W6.cell? ⟨w.heap.size + 1, 0, none⟩ = some (.int .i64 want) := cell_of t1 0
      have u3 : W6.cell? ⟨w.heap.size + 1, 3, none⟩ = some (.bool empty) := cell_of t1 3
      have a0 : W6.cell? ⟨w.heap.size + 1 + 1, 0, none⟩ = some (.pointer (some ⟨t, 0, none⟩)) := cell_of t2 0
      have a1 : W6.cell? ⟨w.heap.size + 1 + 1, 1, none⟩ = some (.int .i64 cwd) := cell_of t2 1
      have a2 : W6.cell? ⟨w.heap.size + 1 + 1, 2, none⟩ = some (.int .i64 c.real) := cell_of t2 2
      have a3 : W6.cell? ⟨w.heap.size + 1 + 1, 3, none⟩ = some (.int .i64 c.eff) := cell_of t2 3
      have a4 : W6.cell? ⟨w.heap.size + 1 + 1, 4, none⟩ = some (.int .i64 c.saved) := cell_of t2 4
      have a5 : W6.cell? ⟨w.heap.size + 1 + 1, 5, none⟩ = some (.int .i64 c.group) := cell_of t2 5
      have a6 : W6.cell? ⟨w.heap.size + 1 + 1, 6, none⟩ = some (.int .i64 c.eg) := cell_of t2 6
      have T3 := Lib.hid t3
      have T1 := Lib.hid t1
      clear hb4 t3 t1 t2
      
      go_wp2
      go_ret2
      refine ⟨0, 7, rfl, Stp.keepB H.out HB4.out (HL.out _ _ _ ⟨q, HQ.out, ?_⟩)⟩
      rw [if_pos ⟨HW.out, HK.out⟩]
      exact ⟨rfl, rfl, rfl⟩
    · have HK := Lib.hid hk
      have hz1 : (g1 == 1) = false := by have := HD.out.2.1; rw [this] at hk; simpa using hk
      clear hk
      have HCX9 : Hid (C[9]? = some (.bool false)) := Lib.hid (by rw [hC]; rfl)
      have HCX10 : Hid (C[10]? = some (.int .i64 g0)) := Lib.hid (by rw [hC]; rfl)
      have HCX11 : Hid (C[11]? = some (.int .i64 g1)) := Lib.hid (by rw [hC]; rfl)
      have HCX12 : Hid (C[12]? = some (.int .i64 g2)) := Lib.hid (by rw [hC]; rfl)
      have HCX13 : Hid (C[13]? = some (.int .i64 g3)) := Lib.hid (by rw [hC]; rfl)
      have HCX14 : Hid (C[14]? = some (.int .i64 g4)) := Lib.hid (by rw [hC]; rfl)
      have HCX15 : Hid (C[15]? = some (.int .i64 g5)) := Lib.hid (by rw [hC]; rfl)
      have HCX16 : Hid (C[16]? = some (.int .i64 g6)) := Lib.hid (by rw [hC]; rfl)
      have HCX17 : Hid (C[17]? = some (.int .i64 g7)) := Lib.hid (by rw [hC]; rfl)
      have HCX18 : Hid (C[18]? = some (.bool true)) := Lib.hid (by rw [hC]; rfl)
      clear h hh ho he hC hq hm
      unfold cred howV
      unfold ask at HC
      go_enter Try.func15, Try.ntmps15
      go_wp2_with fail
      refine (HR.out _).mono ?_
      rintro e w2 ⟨rfl, rfl⟩
      go_wp2_with fail
      refine (HC.out _ (belowA (belowA (belowA (belowA (Below.refl _ _) _) _) _) _)).mono ?_
      rintro e w3 ⟨rfl, hb⟩
      obtain ⟨_, q1, q2, q3, hlt, hbb⟩ := four_blocks hb
      have HB := Lib.hid hbb
      have hlt1 : w.heap.size + 1 < w3.heap.size := by omega
      have hlt2 : w.heap.size + 1 + 1 < w3.heap.size := by omega
      clear hb hbb HC HR
      obtain ⟨s1, s2, s3⟩ := stored_whole (w3 := w3) (Z := #[.int .i64 0, .int .i64 0, .int .i64 0, .int .i64 0, .int .i64 0, .int .i64 0, .int .i64 0, .int .i64 0, .string ⟨#[]⟩, .bool false, .int .i64 0, .int .i64 0, .int .i64 0, .int .i64 0, .int .i64 0, .int .i64 0, .int .i64 0, .int .i64 0, .bool false]) (C := C) (TY := 77) HCS.out
      have hT : (w3.alloc (.cells #[.int .i64 0, .int .i64 0, .int .i64 0, .int .i64 0, .int .i64 0, .int .i64 0, .int .i64 0, .int .i64 0, .string ⟨#[]⟩, .bool false, .int .i64 0, .int .i64 0, .int .i64 0, .int .i64 0, .int .i64 0, .int .i64 0, .int .i64 0, .int .i64 0, .bool false] 77)).there w3.heap.size 0 C.size := by rw [HCS.out]; exact there_of (alloc_heap w3 _)
      have hI : (Try.prog.info? 77).map (·.size) = some C.size := by rw [HCS.out]; rfl
      have h1C := HC1.out
      have x9 : (World.setCells (w3.alloc (.cells #[.int .i64 0, .int .i64 0, .int .i64 0, .int .i64 0, .int .i64 0, .int .i64 0, .int .i64 0, .int .i64 0, .string ⟨#[]⟩, .bool false, .int .i64 0, .int .i64 0, .int .i64 0, .int .i64 0, .int .i64 0, .int .i64 0, .int .i64 0, .int .i64 0, .bool false] 77)) w3.heap.size 0 C.toList).cell? ⟨w3.heap.size, 9, none⟩ = some (.bool false) := (cell_of s1 9).trans HCX9.out
      have x10 : (World.setCells (w3.alloc (.cells #[.int .i64 0, .int .i64 0, .int .i64 0, .int .i64 0, .int .i64 0, .int .i64 0, .int .i64 0, .int .i64 0, .string ⟨#[]⟩, .bool false, .int .i64 0, .int .i64 0, .int .i64 0, .int .i64 0, .int .i64 0, .int .i64 0, .int .i64 0, .int .i64 0, .bool false] 77)) w3.heap.size 0 C.toList).cell? ⟨w3.heap.size, 10, none⟩ = some (.int .i64 g0) := (cell_of s1 10).trans HCX10.out
      have x11 : (World.setCells (w3.alloc (.cells #[.int .i64 0, .int .i64 0, .int .i64 0, .int .i64 0, .int .i64 0, .int .i64 0, .int .i64 0, .int .i64 0, .string ⟨#[]⟩, .bool false, .int .i64 0, .int .i64 0, .int .i64 0, .int .i64 0, .int .i64 0, .int .i64 0, .int .i64 0, .int .i64 0, .bool false] 77)) w3.heap.size 0 C.toList).cell? ⟨w3.heap.size, 11, none⟩ = some (.int .i64 g1) := (cell_of s1 11).trans HCX11.out
      have x12 : (World.setCells (w3.alloc (.cells #[.int .i64 0, .int .i64 0, .int .i64 0, .int .i64 0, .int .i64 0, .int .i64 0, .int .i64 0, .int .i64 0, .string ⟨#[]⟩, .bool false, .int .i64 0, .int .i64 0, .int .i64 0, .int .i64 0, .int .i64 0, .int .i64 0, .int .i64 0, .int .i64 0, .bool false] 77)) w3.heap.size 0 C.toList).cell? ⟨w3.heap.size, 12, none⟩ = some (.int .i64 g2) := (cell_of s1 12).trans HCX12.out
      have x13 : (World.setCells (w3.alloc (.cells #[.int .i64 0, .int .i64 0, .int .i64 0, .int .i64 0, .int .i64 0, .int .i64 0, .int .i64 0, .int .i64 0, .string ⟨#[]⟩, .bool false, .int .i64 0, .int .i64 0, .int .i64 0, .int .i64 0, .int .i64 0, .int .i64 0, .int .i64 0, .int .i64 0, .bool false] 77)) w3.heap.size 0 C.toList).cell? ⟨w3.heap.size, 13, none⟩ = some (.int .i64 g3) := (cell_of s1 13).trans HCX13.out
      have x14 : (World.setCells (w3.alloc (.cells #[.int .i64 0, .int .i64 0, .int .i64 0, .int .i64 0, .int .i64 0, .int .i64 0, .int .i64 0, .int .i64 0, .string ⟨#[]⟩, .bool false, .int .i64 0, .int .i64 0, .int .i64 0, .int .i64 0, .int .i64 0, .int .i64 0, .int .i64 0, .int .i64 0, .bool false] 77)) w3.heap.size 0 C.toList).cell? ⟨w3.heap.size, 14, none⟩ = some (.int .i64 g4) := (cell_of s1 14).trans HCX14.out
      have x15 : (World.setCells (w3.alloc (.cells #[.int .i64 0, .int .i64 0, .int .i64 0, .int .i64 0, .int .i64 0, .int .i64 0, .int .i64 0, .int .i64 0, .string ⟨#[]⟩, .bool false, .int .i64 0, .int .i64 0, .int .i64 0, .int .i64 0, .int .i64 0, .int .i64 0, .int .i64 0, .int .i64 0, .bool false] 77)) w3.heap.size 0 C.toList).cell? ⟨w3.heap.size, 15, none⟩ = some (.int .i64 g5) := (cell_of s1 15).trans HCX15.out
      have x16 : (World.setCells (w3.alloc (.cells #[.int .i64 0, .int .i64 0, .int .i64 0, .int .i64 0, .int .i64 0, .int .i64 0, .int .i64 0, .int .i64 0, .string ⟨#[]⟩, .bool false, .int .i64 0, .int .i64 0, .int .i64 0, .int .i64 0, .int .i64 0, .int .i64 0, .int .i64 0, .int .i64 0, .bool false] 77)) w3.heap.size 0 C.toList).cell? ⟨w3.heap.size, 16, none⟩ = some (.int .i64 g6) := (cell_of s1 16).trans HCX16.out
      have x17 : (World.setCells (w3.alloc (.cells #[.int .i64 0, .int .i64 0, .int .i64 0, .int .i64 0, .int .i64 0, .int .i64 0, .int .i64 0, .int .i64 0, .string ⟨#[]⟩, .bool false, .int .i64 0, .int .i64 0, .int .i64 0, .int .i64 0, .int .i64 0, .int .i64 0, .int .i64 0, .int .i64 0, .bool false] 77)) w3.heap.size 0 C.toList).cell? ⟨w3.heap.size, 17, none⟩ = some (.int .i64 g7) := (cell_of s1 17).trans HCX17.out
      have x18 : (World.setCells (w3.alloc (.cells #[.int .i64 0, .int .i64 0, .int .i64 0, .int .i64 0, .int .i64 0, .int .i64 0, .int .i64 0, .int .i64 0, .string ⟨#[]⟩, .bool false, .int .i64 0, .int .i64 0, .int .i64 0, .int .i64 0, .int .i64 0, .int .i64 0, .int .i64 0, .int .i64 0, .bool false] 77)) w3.heap.size 0 C.toList).cell? ⟨w3.heap.size, 18, none⟩ = some (.bool true) := (cell_of s1 18).trans HCX18.out
      have huB := (s2.block _ hlt1).trans q1
      have huL : w.heap.size + 1 < (World.setCells (w3.alloc (.cells #[.int .i64 0, .int .i64 0, .int .i64 0, .int .i64 0, .int .i64 0, .int .i64 0, .int .i64 0, .int .i64 0, .string ⟨#[]⟩, .bool false, .int .i64 0, .int .i64 0, .int .i64 0, .int .i64 0, .int .i64 0, .int .i64 0, .int .i64 0, .int .i64 0, .bool false] 77)) w3.heap.size 0 C.toList).heap.size := by have := hlt1; omega
      have u0 : (World.setCells (w3.alloc (.cells #[.int .i64 0, .int .i64 0, .int .i64 0, .int .i64 0, .int .i64 0, .int .i64 0, .int .i64 0, .int .i64 0, .string ⟨#[]⟩, .bool false, .int .i64 0, .int .i64 0, .int .i64 0, .int .i64 0, .int .i64 0, .int .i64 0, .int .i64 0, .int .i64 0, .bool false] 77)) w3.heap.size 0 C.toList).cell? ⟨w.heap.size + 1, 0, none⟩ = some (.int .i64 want) := cell_of huB 0
      have u2 : (World.setCells (w3.alloc (.cells #[.int .i64 0, .int .i64 0, .int .i64 0, .int .i64 0, .int .i64 0, .int .i64 0, .int .i64 0, .int .i64 0, .string ⟨#[]⟩, .bool false, .int .i64 0, .int .i64 0, .int .i64 0, .int .i64 0, .int .i64 0, .int .i64 0, .int .i64 0, .int .i64 0, .bool false] 77)) w3.heap.size 0 C.toList).cell? ⟨w.heap.size + 1, 2, none⟩ = some (.bool false) := cell_of huB 2
      have u3 : (World.setCells (w3.alloc (.cells #[.int .i64 0, .int .i64 0, .int .i64 0, .int .i64 0, .int .i64 0, .int .i64 0, .int .i64 0, .int .i64 0, .string ⟨#[]⟩, .bool false, .int .i64 0, .int .i64 0, .int .i64 0, .int .i64 0, .int .i64 0, .int .i64 0, .int .i64 0, .int .i64 0, .bool false] 77)) w3.heap.size 0 C.toList).cell? ⟨w.heap.size + 1, 3, none⟩ = some (.bool empty) := cell_of huB 3
      have haB := (s2.block _ hlt2).trans q2
      have haL : w.heap.size + 1 + 1 < (World.setCells (w3.alloc (.cells #[.int .i64 0, .int .i64 0, .int .i64 0, .int .i64 0, .int .i64 0, .int .i64 0, .int .i64 0, .int .i64 0, .string ⟨#[]⟩, .bool false, .int .i64 0, .int .i64 0, .int .i64 0, .int .i64 0, .int .i64 0, .int .i64 0, .int .i64 0, .int .i64 0, .bool false] 77)) w3.heap.size 0 C.toList).heap.size := by have := hlt2; omega
      have a0 : (World.setCells (w3.alloc (.cells #[.int .i64 0, .int .i64 0, .int .i64 0, .int .i64 0, .int .i64 0, .int .i64 0, .int .i64 0, .int .i64 0, .string ⟨#[]⟩, .bool false, .int .i64 0, .int .i64 0, .int .i64 0, .int .i64 0, .int .i64 0, .int .i64 0, .int .i64 0, .int .i64 0, .bool false] 77)) w3.heap.size 0 C.toList).cell? ⟨w.heap.size + 1 + 1, 0, none⟩ = some (.pointer (some ⟨t, 0, none⟩)) := cell_of haB 0
      have a1 : (World.setCells (w3.alloc (.cells #[.int .i64 0, .int .i64 0, .int .i64 0, .int .i64 0, .int .i64 0, .int .i64 0, .int .i64 0, .int .i64 0, .string ⟨#[]⟩, .bool false, .int .i64 0, .int .i64 0, .int .i64 0, .int .i64 0, .int .i64 0, .int .i64 0, .int .i64 0, .int .i64 0, .bool false] 77)) w3.heap.size 0 C.toList).cell? ⟨w.heap.size + 1 + 1, 1, none⟩ = some (.int .i64 cwd) := cell_of haB 1
      have a2 : (World.setCells (w3.alloc (.cells #[.int .i64 0, .int .i64 0, .int .i64 0, .int .i64 0, .int .i64 0, .int .i64 0, .int .i64 0, .int .i64 0, .string ⟨#[]⟩, .bool false, .int .i64 0, .int .i64 0, .int .i64 0, .int .i64 0, .int .i64 0, .int .i64 0, .int .i64 0, .int .i64 0, .bool false] 77)) w3.heap.size 0 C.toList).cell? ⟨w.heap.size + 1 + 1, 2, none⟩ = some (.int .i64 c.real) := cell_of haB 2
      have a3 : (World.setCells (w3.alloc (.cells #[.int .i64 0, .int .i64 0, .int .i64 0, .int .i64 0, .int .i64 0, .int .i64 0, .int .i64 0, .int .i64 0, .string ⟨#[]⟩, .bool false, .int .i64 0, .int .i64 0, .int .i64 0, .int .i64 0, .int .i64 0, .int .i64 0, .int .i64 0, .int .i64 0, .bool false] 77)) w3.heap.size 0 C.toList).cell? ⟨w.heap.size + 1 + 1, 3, none⟩ = some (.int .i64 c.eff) := cell_of haB 3
      have a4 : (World.setCells (w3.alloc (.cells #[.int .i64 0, .int .i64 0, .int .i64 0, .int .i64 0, .int .i64 0, .int .i64 0, .int .i64 0, .int .i64 0, .string ⟨#[]⟩, .bool false, .int .i64 0, .int .i64 0, .int .i64 0, .int .i64 0, .int .i64 0, .int .i64 0, .int .i64 0, .int .i64 0, .bool false] 77)) w3.heap.size 0 C.toList).cell? ⟨w.heap.size + 1 + 1, 4, none⟩ = some (.int .i64 c.saved) := cell_of haB 4
      have a5 : (World.setCells (w3.alloc (.cells #[.int .i64 0, .int .i64 0, .int .i64 0, .int .i64 0, .int .i64 0, .int .i64 0, .int .i64 0, .int .i64 0, .string ⟨#[]⟩, .bool false, .int .i64 0, .int .i64 0, .int .i64 0, .int .i64 0, .int .i64 0, .int .i64 0, .int .i64 0, .int .i64 0, .bool false] 77)) w3.heap.size 0 C.toList).cell? ⟨w.heap.size + 1 + 1, 5, none⟩ = some (.int .i64 c.group) := cell_of haB 5
      have a6 : (World.setCells (w3.alloc (.cells #[.int .i64 0, .int .i64 0, .int .i64 0, .int .i64 0, .int .i64 0, .int .i64 0, .int .i64 0, .int .i64 0, .string ⟨#[]⟩, .bool false, .int .i64 0, .int .i64 0, .int .i64 0, .int .i64 0, .int .i64 0, .int .i64 0, .int .i64 0, .int .i64 0, .bool false] 77)) w3.heap.size 0 C.toList).cell? ⟨w.heap.size + 1 + 1, 6, none⟩ = some (.int .i64 c.eg) := cell_of haB 6
      have hpB := (s2.block _ hlt).trans q3
      have hpL : w.heap.size + 1 + 1 + 1 < (World.setCells (w3.alloc (.cells #[.int .i64 0, .int .i64 0, .int .i64 0, .int .i64 0, .int .i64 0, .int .i64 0, .int .i64 0, .int .i64 0, .string ⟨#[]⟩, .bool false, .int .i64 0, .int .i64 0, .int .i64 0, .int .i64 0, .int .i64 0, .int .i64 0, .int .i64 0, .int .i64 0, .bool false] 77)) w3.heap.size 0 C.toList).heap.size := by have := hlt; omega
      have p0 : (World.setCells (w3.alloc (.cells #[.int .i64 0, .int .i64 0, .int .i64 0, .int .i64 0, .int .i64 0, .int .i64 0, .int .i64 0, .int .i64 0, .string ⟨#[]⟩, .bool false, .int .i64 0, .int .i64 0, .int .i64 0, .int .i64 0, .int .i64 0, .int .i64 0, .int .i64 0, .int .i64 0, .bool false] 77)) w3.heap.size 0 C.toList).cell? ⟨w.heap.size + 1 + 1 + 1, 0, none⟩ = some (.int .i64 0) := cell_of hpB 0
      have p1 : (World.setCells (w3.alloc (.cells #[.int .i64 0, .int .i64 0, .int .i64 0, .int .i64 0, .int .i64 0, .int .i64 0, .int .i64 0, .int .i64 0, .string ⟨#[]⟩, .bool false, .int .i64 0, .int .i64 0, .int .i64 0, .int .i64 0, .int .i64 0, .int .i64 0, .int .i64 0, .int .i64 0, .bool false] 77)) w3.heap.size 0 C.toList).cell? ⟨w.heap.size + 1 + 1 + 1, 1, none⟩ = some (.int .i64 0) := cell_of hpB 1
      have p2 : (World.setCells (w3.alloc (.cells #[.int .i64 0, .int .i64 0, .int .i64 0, .int .i64 0, .int .i64 0, .int .i64 0, .int .i64 0, .int .i64 0, .string ⟨#[]⟩, .bool false, .int .i64 0, .int .i64 0, .int .i64 0, .int .i64 0, .int .i64 0, .int .i64 0, .int .i64 0, .int .i64 0, .bool false] 77)) w3.heap.size 0 C.toList).cell? ⟨w.heap.size + 1 + 1 + 1, 2, none⟩ = some (.int .i64 0) := cell_of hpB 2
      have p3 : (World.setCells (w3.alloc (.cells #[.int .i64 0, .int .i64 0, .int .i64 0, .int .i64 0, .int .i64 0, .int .i64 0, .int .i64 0, .int .i64 0, .string ⟨#[]⟩, .bool false, .int .i64 0, .int .i64 0, .int .i64 0, .int .i64 0, .int .i64 0, .int .i64 0, .int .i64 0, .int .i64 0, .bool false] 77)) w3.heap.size 0 C.toList).cell? ⟨w.heap.size + 1 + 1 + 1, 3, none⟩ = some (.int .i64 0) := cell_of hpB 3
      have p4 : (World.setCells (w3.alloc (.cells #[.int .i64 0, .int .i64 0, .int .i64 0, .int .i64 0, .int .i64 0, .int .i64 0, .int .i64 0, .int .i64 0, .string ⟨#[]⟩, .bool false, .int .i64 0, .int .i64 0, .int .i64 0, .int .i64 0, .int .i64 0, .int .i64 0, .int .i64 0, .int .i64 0, .bool false] 77)) w3.heap.size 0 C.toList).cell? ⟨w.heap.size + 1 + 1 + 1, 4, none⟩ = some (.int .i64 0) := cell_of hpB 4
      have p5 : (World.setCells (w3.alloc (.cells #[.int .i64 0, .int .i64 0, .int .i64 0, .int .i64 0, .int .i64 0, .int .i64 0, .int .i64 0, .int .i64 0, .string ⟨#[]⟩, .bool false, .int .i64 0, .int .i64 0, .int .i64 0, .int .i64 0, .int .i64 0, .int .i64 0, .int .i64 0, .int .i64 0, .bool false] 77)) w3.heap.size 0 C.toList).cell? ⟨w.heap.size + 1 + 1 + 1, 5, none⟩ = some (.int .i64 0) := cell_of hpB 5
      have p6 : (World.setCells (w3.alloc (.cells #[.int .i64 0, .int .i64 0, .int .i64 0, .int .i64 0, .int .i64 0, .int .i64 0, .int .i64 0, .int .i64 0, .string ⟨#[]⟩, .bool false, .int .i64 0, .int .i64 0, .int .i64 0, .int .i64 0, .int .i64 0, .int .i64 0, .int .i64 0, .int .i64 0, .bool false] 77)) w3.heap.size 0 C.toList).cell? ⟨w.heap.size + 1 + 1 + 1, 6, none⟩ = some (.int .i64 0) := cell_of hpB 6
      have p7 : (World.setCells (w3.alloc (.cells #[.int .i64 0, .int .i64 0, .int .i64 0, .int .i64 0, .int .i64 0, .int .i64 0, .int .i64 0, .int .i64 0, .string ⟨#[]⟩, .bool false, .int .i64 0, .int .i64 0, .int .i64 0, .int .i64 0, .int .i64 0, .int .i64 0, .int .i64 0, .int .i64 0, .bool false] 77)) w3.heap.size 0 C.toList).cell? ⟨w.heap.size + 1 + 1 + 1, 7, none⟩ = some (.int .i64 0) := cell_of hpB 7
      have s5 : ∀ i, (World.setCells (w3.alloc (.cells #[.int .i64 0, .int .i64 0, .int .i64 0, .int .i64 0, .int .i64 0, .int .i64 0, .int .i64 0, .int .i64 0, .string ⟨#[]⟩, .bool false, .int .i64 0, .int .i64 0, .int .i64 0, .int .i64 0, .int .i64 0, .int .i64 0, .int .i64 0, .int .i64 0, .bool false] 77)) w3.heap.size 0 C.toList).frozen? ⟨w.heap.size + 1 + 1 + 1, i, none⟩ = false := fun i => frozen_of hpB i
      have z0 : (World.setCells (w3.alloc (.cells #[.int .i64 0, .int .i64 0, .int .i64 0, .int .i64 0, .int .i64 0, .int .i64 0, .int .i64 0, .int .i64 0, .string ⟨#[]⟩, .bool false, .int .i64 0, .int .i64 0, .int .i64 0, .int .i64 0, .int .i64 0, .int .i64 0, .int .i64 0, .int .i64 0, .bool false] 77)) w3.heap.size 0 C.toList).frozen? ⟨w.heap.size + 1 + 1 + 1, 0, none⟩ = false := s5 0
      have z1 : (World.setCells (w3.alloc (.cells #[.int .i64 0, .int .i64 0, .int .i64 0, .int .i64 0, .int .i64 0, .int .i64 0, .int .i64 0, .int .i64 0, .string ⟨#[]⟩, .bool false, .int .i64 0, .int .i64 0, .int .i64 0, .int .i64 0, .int .i64 0, .int .i64 0, .int .i64 0, .int .i64 0, .bool false] 77)) w3.heap.size 0 C.toList).frozen? ⟨w.heap.size + 1 + 1 + 1, 1, none⟩ = false := s5 1
      have z2 : (World.setCells (w3.alloc (.cells #[.int .i64 0, .int .i64 0, .int .i64 0, .int .i64 0, .int .i64 0, .int .i64 0, .int .i64 0, .int .i64 0, .string ⟨#[]⟩, .bool false, .int .i64 0, .int .i64 0, .int .i64 0, .int .i64 0, .int .i64 0, .int .i64 0, .int .i64 0, .int .i64 0, .bool false] 77)) w3.heap.size 0 C.toList).frozen? ⟨w.heap.size + 1 + 1 + 1, 2, none⟩ = false := s5 2
      have z3 : (World.setCells (w3.alloc (.cells #[.int .i64 0, .int .i64 0, .int .i64 0, .int .i64 0, .int .i64 0, .int .i64 0, .int .i64 0, .int .i64 0, .string ⟨#[]⟩, .bool false, .int .i64 0, .int .i64 0, .int .i64 0, .int .i64 0, .int .i64 0, .int .i64 0, .int .i64 0, .int .i64 0, .bool false] 77)) w3.heap.size 0 C.toList).frozen? ⟨w.heap.size + 1 + 1 + 1, 3, none⟩ = false := s5 3
      have z4 : (World.setCells (w3.alloc (.cells #[.int .i64 0, .int .i64 0, .int .i64 0, .int .i64 0, .int .i64 0, .int .i64 0, .int .i64 0, .int .i64 0, .string ⟨#[]⟩, .bool false, .int .i64 0, .int .i64 0, .int .i64 0, .int .i64 0, .int .i64 0, .int .i64 0, .int .i64 0, .int .i64 0, .bool false] 77)) w3.heap.size 0 C.toList).frozen? ⟨w.heap.size + 1 + 1 + 1, 4, none⟩ = false := s5 4
      have z5 : (World.setCells (w3.alloc (.cells #[.int .i64 0, .int .i64 0, .int .i64 0, .int .i64 0, .int .i64 0, .int .i64 0, .int .i64 0, .int .i64 0, .string ⟨#[]⟩, .bool false, .int .i64 0, .int .i64 0, .int .i64 0, .int .i64 0, .int .i64 0, .int .i64 0, .int .i64 0, .int .i64 0, .bool false] 77)) w3.heap.size 0 C.toList).frozen? ⟨w.heap.size + 1 + 1 + 1, 5, none⟩ = false := s5 5
      have z6 : (World.setCells (w3.alloc (.cells #[.int .i64 0, .int .i64 0, .int .i64 0, .int .i64 0, .int .i64 0, .int .i64 0, .int .i64 0, .int .i64 0, .string ⟨#[]⟩, .bool false, .int .i64 0, .int .i64 0, .int .i64 0, .int .i64 0, .int .i64 0, .int .i64 0, .int .i64 0, .int .i64 0, .bool false] 77)) w3.heap.size 0 C.toList).frozen? ⟨w.heap.size + 1 + 1 + 1, 6, none⟩ = false := s5 6
      have z7 : (World.setCells (w3.alloc (.cells #[.int .i64 0, .int .i64 0, .int .i64 0, .int .i64 0, .int .i64 0, .int .i64 0, .int .i64 0, .int .i64 0, .string ⟨#[]⟩, .bool false, .int .i64 0, .int .i64 0, .int .i64 0, .int .i64 0, .int .i64 0, .int .i64 0, .int .i64 0, .int .i64 0, .bool false] 77)) w3.heap.size 0 C.toList).frozen? ⟨w.heap.size + 1 + 1 + 1, 7, none⟩ = false := s5 7
      clear s5
      clear q1 q2 q3
      go_upto_region 22 with (refine wpList_store_mid rfl 77 _ _ rfl w3.heap.size 0 C rfl rfl hT hI h1C ?_; generalize World.setCells (w3.alloc (.cells #[.int .i64 0, .int .i64 0, .int .i64 0, .int .i64 0, .int .i64 0, .int .i64 0, .int .i64 0, .int .i64 0, .string ⟨#[]⟩, .bool false, .int .i64 0, .int .i64 0, .int .i64 0, .int .i64 0, .int .i64 0, .int .i64 0, .int .i64 0, .int .i64 0, .bool false] 77)) w3.heap.size 0 C.toList = W5 at s1 s2 s3 x9 x10 x11 x12 x13 x14 x15 x16 x17 x18 huB huL u0 u2 u3 haB haL a0 a1 a2 a3 a4 a5 a6 hpB hpL p0 p1 p2 p3 p4 p5 p6 p7 z0 z1 z2 z3 z4 z5 z6 z7 ⊢)
      have HB3 : Hid (Below w.heap.size w W5) := Lib.hid (HB.out.trans (s2.mono HB.out.size))
      have hb4 := below_set8 (R := w.heap.size + 1 + 1 + 1) (v0 := .int .i64 g0) (v1 := .int .i64 g1) (v2 := .int .i64 g2) (v3 := .int .i64 g3) (v4 := .int .i64 g4) (v5 := .int .i64 g5) (v6 := .int .i64 g6) (v7 := .int .i64 g7) HB3.out (by omega)
      have t3 := heap_set8 (v0 := .int .i64 g0) (v1 := .int .i64 g1) (v2 := .int .i64 g2) (v3 := .int .i64 g3) (v4 := .int .i64 g4) (v5 := .int .i64 g5) (v6 := .int .i64 g6) (v7 := .int .i64 g7) hpB
      have t1 := (heap_set8_other (R := w.heap.size + 1 + 1 + 1) (v0 := .int .i64 g0) (v1 := .int .i64 g1) (v2 := .int .i64 g2) (v3 := .int .i64 g3) (v4 := .int .i64 g4) (v5 := .int .i64 g5) (v6 := .int .i64 g6) (v7 := .int .i64 g7) (b := w.heap.size + 1) (by omega)).trans huB
      have t2 := (heap_set8_other (R := w.heap.size + 1 + 1 + 1) (v0 := .int .i64 g0) (v1 := .int .i64 g1) (v2 := .int .i64 g2) (v3 := .int .i64 g3) (v4 := .int .i64 g4) (v5 := .int .i64 g5) (v6 := .int .i64 g6) (v7 := .int .i64 g7) (b := w.heap.size + 1 + 1) (by omega)).trans haB
      clear x9 x10 x11 x12 x13 x14 x15 x16 x17 x18 hT hI h1C s1 s2 s3 huB haB hpB haL hpL huL p0 z0 p1 z1 p2 z2 p3 z3 p4 z4 p5 z5 p6 z6 p7 z7 a0 a1 a2 a3 a4 a5 a6 u0 u2 u3
      generalize ((((((((W5.setCell ⟨w.heap.size + 1 + 1 + 1, 0, none⟩ (.int .i64 g0)).setCell ⟨w.heap.size + 1 + 1 + 1, 1, none⟩ (.int .i64 g1)).setCell ⟨w.heap.size + 1 + 1 + 1, 2, none⟩ (.int .i64 g2)).setCell ⟨w.heap.size + 1 + 1 + 1, 3, none⟩ (.int .i64 g3)).setCell ⟨w.heap.size + 1 + 1 + 1, 4, none⟩ (.int .i64 g4)).setCell ⟨w.heap.size + 1 + 1 + 1, 5, none⟩ (.int .i64 g5)).setCell ⟨w.heap.size + 1 + 1 + 1, 6, none⟩ (.int .i64 g6)).setCell ⟨w.heap.size + 1 + 1 + 1, 7, none⟩ (.int .i64 g7)) = W6 at hb4 t3 t1 t2 ⊢
      have HB4 := Lib.hid hb4
      have y0 : W6.cell? ⟨w.heap.size + 1 + 1 + 1, 0, none⟩ = some (.int .i64 g0) := cell_of t3 0
      have y1 : W6.cell? ⟨w.heap.size + 1 + 1 + 1, 1, none⟩ = some (.int .i64 g1) := cell_of t3 1
      have y2 : W6.cell? ⟨w.heap.size + 1 + 1 + 1, 2, none⟩ = some (.int .i64 g2) := cell_of t3 2
      have y3 : W6.cell? ⟨w.heap.size + 1 + 1 + 1, 3, none⟩ = some (.int .i64 g3) := cell_of t3 3
      have y4 : W6.cell? ⟨w.heap.size + 1 + 1 + 1, 4, none⟩ = some (.int .i64 g4) := cell_of t3 4
      have y5 : W6.cell? ⟨w.heap.size + 1 + 1 + 1, 5, none⟩ = some (.int .i64 g5) := cell_of t3 5
      have y6 : W6.cell? ⟨w.heap.size + 1 + 1 + 1, 6, none⟩ = some (.int .i64 g6) := cell_of t3 6
      have y7 : W6.cell? ⟨w.heap.size + 1 + 1 + 1, 7, none⟩ = some (.int .i64 g7) := cell_of t3 7
      have u0 : W6.cell? ⟨w.heap.size + 1, 0, none⟩ = some (.int .i64 want) := cell_of t1 0
      have u3 : W6.cell? ⟨w.heap.size + 1, 3, none⟩ = some (.bool empty) := cell_of t1 3
      have a0 : W6.cell? ⟨w.heap.size + 1 + 1, 0, none⟩ = some (.pointer (some ⟨t, 0, none⟩)) := cell_of t2 0
      have a1 : W6.cell? ⟨w.heap.size + 1 + 1, 1, none⟩ = some (.int .i64 cwd) := cell_of t2 1
      have a2 : W6.cell? ⟨w.heap.size + 1 + 1, 2, none⟩ = some (.int .i64 c.real) := cell_of t2 2
      have a3 : W6.cell? ⟨w.heap.size + 1 + 1, 3, none⟩ = some (.int .i64 c.eff) := cell_of t2 3
      have a4 : W6.cell? ⟨w.heap.size + 1 + 1, 4, none⟩ = some (.int .i64 c.saved) := cell_of t2 4
      have a5 : W6.cell? ⟨w.heap.size + 1 + 1, 5, none⟩ = some (.int .i64 c.group) := cell_of t2 5
      have a6 : W6.cell? ⟨w.heap.size + 1 + 1, 6, none⟩ = some (.int .i64 c.eg) := cell_of t2 6
      have T3 := Lib.hid t3
      have T1 := Lib.hid t1
      clear hb4 t3 t1 t2
      go_wp2_with fail
      refine (HM.out _).mono ?_
      rintro e w5 ⟨rfl, hb5⟩
      have HB5 : Hid (Below w.heap.size w w5) := Lib.hid (HB4.out.trans (hb5.mono HB4.out.size))
      have t3 := (hb5.block (w.heap.size + 1 + 1 + 1) (lt_of_heap T3.out)).trans T3.out
      have t1 := (hb5.block (w.heap.size + 1) (lt_of_heap T1.out)).trans T1.out
      clear hb5 T3 T1 y0 y1 y2 y3 y4 y5 y6 y7 u0 u3 a0 a1 a2 a3 a4 a5 a6
      cases hmy : mayN q c want with
      | false =>
        have HMY := Lib.hid hmy
        clear hmy t1 t3
        go_wp2
        go_ret2
        refine ⟨0, 4, rfl, Stp.keepB H.out HB5.out (HL.out _ _ _ ⟨q, HQ.out, ?_⟩)⟩
        rw [if_neg (fun hh => HK.out hh.2), if_pos HMY.out]
        exact ⟨rfl, rfl, rfl⟩
      | true =>
        have HMY := Lib.hid hmy
        have y0 : w5.cell? ⟨w.heap.size + 1 + 1 + 1, 0, none⟩ = some (.int .i64 g0) := cell_of t3 0
        have T3 := Lib.hid t3
        have T1 := Lib.hid t1
        clear hmy t1 t3
        go_wp2_with fail
        refine (hold_any (H.out.mv ((Mv.refl H.out.rep).below HB5.out)) (HH.out.mono (by decide)) g0).mono ?_
        rintro e w6 ⟨b, rfl, hs⟩
        obtain ⟨S1, T1x, m1, ht1, hr1⟩ := hs.tre fun T' hT' => hT'.sound H.out.snd
        have fr3 : Fr w5 t S (w.heap.size + 1 + 1 + 1) := Fr.new H.out.rep (by omega) (lt_of_heap T3.out)
        have fr1 : Fr w5 t S (w.heap.size + 1) := Fr.new H.out.rep (by omega) (lt_of_heap T1.out)
        have z3 := (fr3.heap m1).trans T3.out
        have z1 := (fr1.heap m1).trans T1.out
        have y0 : w6.cell? ⟨w.heap.size + 1 + 1 + 1, 0, none⟩ = some (.int .i64 g0) := cell_of z3 0
        have y1 : w6.cell? ⟨w.heap.size + 1 + 1 + 1, 1, none⟩ = some (.int .i64 g1) := cell_of z3 1
        have y3 : w6.cell? ⟨w.heap.size + 1, 3, none⟩ = some (.bool empty) := cell_of z1 3
        have FR3 := Lib.hid (fr3.mv m1)
        have Z3 := Lib.hid z3
        have HG1 := Lib.hid (((Mv.refl H.out.rep).below HB5.out).trans m1)
        have HT1 := Lib.hid ht1
        have HR1 : Hid (IT.isHold T j b T1x) := Lib.hid (by rw [← HD.out.1] at hr1; exact hr1)
        clear hs m1 ht1 hr1 fr3 fr1 z3 z1
        have hleaf : ∀ (T' : IT.Tr), (if empty = true ∧ (bits BinOp.and .i64 want 2 != 0) = true ∧ q.kind = 0 then ∃ r2 T2, IT.isCut T1x j r2 T2 ∧ isPlainer T2 j T' else T' = T1x) → isOpen T c cwd (bs s) ⟨want, true, false, empty, fin, mode⟩ j 0 T' := fun T' hl => by
          refine HL.out _ _ _ ⟨q, HQ.out, ?_⟩
          rw [if_neg (fun hh => HK.out hh.2), if_neg (by rw [HMY.out]; decide)]
          exact ⟨rfl, rfl, b, T1x, HR1.out, hl⟩
        have HLF := Lib.hid hleaf
        clear hleaf
        cases empty with
        | false =>
          go_wp2
          go_ret2
          exact ⟨j, 0, by rw [HD.out.1]; rfl, S1, T1x, HG1.out, HT1.out.ties, HLF.out _ (by rw [if_neg (fun hh => by cases hh.1)])⟩
        | true =>
          by_cases hk0 : q.kind = 0
          · have hz0 : (g1 == 0) = true := by have := HD.out.2.1; simpa using (this.symm.trans hk0)
            have HK0 := Lib.hid hk0
            clear hk0
            go_wp2_with fail
            refine (cut_any HT1.out g0).mono ?_
            rintro e w7 ⟨r2, rfl, hs⟩
            obtain ⟨S2, T2x, m2, ht2, hr2⟩ := hs.tre fun T' hT' => hT'.sound HT1.out.snd
            have z4 := (FR3.out.heap m2).trans Z3.out
            have FR5 := Lib.hid (FR3.out.mv m2)
            have Z4 := Lib.hid z4
            have v0 : w7.cell? ⟨w.heap.size + 1 + 1 + 1, 0, none⟩ = some (.int .i64 g0) := cell_of z4 0
            have HG2 := Lib.hid (HG1.out.trans m2)
            have HT2 := Lib.hid ht2
            have HR2 := Lib.hid hr2
            clear hs m2 ht2 hr2 z4
            go_wp2_with fail
            refine (plainer_any HT2.out g0).mono ?_
            rintro e w8 ⟨rfl, hs⟩
            have HS := Lib.hid (Stp.pre HG2.out hs)
            obtain ⟨S3, T3x, m3, ht3, hr3⟩ := hs.tre fun T' hT' => isPlainer.sound hT' HT2.out.snd
            have z5 := (FR5.out.heap m3).trans Z4.out
            have v0 : w8.cell? ⟨w.heap.size + 1 + 1 + 1, 0, none⟩ = some (.int .i64 g0) := cell_of z5 0
            clear hs m3 ht3 hr3 z5
            go_wp2
            go_ret2
            refine ⟨j, 0, by rw [HD.out.1]; rfl, HS.out.imp fun T' hT' => HLF.out T' ?_⟩
            rw [if_pos (by exact ⟨by trivial, HW.out, HK0.out⟩)]
            refine ⟨r2, T2x, ?_, ?_⟩
            · have := HR2.out
              rw [← HD.out.1] at this
              exact this
            · rw [← HD.out.1] at hT'
              exact hT'
          · have hz0 : (g1 == 0) = false := by have := HD.out.2.1; rw [this] at hk0; simpa using hk0
            have HK0 := Lib.hid hk0
            clear hk0
            go_wp2
            go_ret2
            exact ⟨j, 0, by rw [HD.out.1]; rfl, S1, T1x, HG1.out, HT1.out.ties, HLF.out _ (by rw [if_neg (fun hh => HK0.out hh.2.2)])⟩
end Go.Proofs.Ytafonmnfeibaiaa
