/-
  It is proved that WalkLinks returns true for every input: two names of a file are one file; what is put by the one is there by the other; when one goes, the other one stays.
  Conditions: none beyond the statement's own (the reading of the arguments; internal/bytealg.MaxLen is named, not read).
-/
import Derived.Test.YtafonmnfeibaiaaAll4
import Derived.Deep.Cut
import Derived.Test.YtafonmnfeibaiaaAll0
import Derived.Test.YtafonmnfeibaiaaAll1
import Derived.Test.YtafonmnfeibaiaaAll2
import Derived.Test.YtafonmnfeibaiaaRows
import Derived.WalkKit
import Derived.ProofKit
import Derived.OpenShut
import Derived.ShutString
import Derived.ChangeOld
import Derived.SliceStrings
import Derived.Below
namespace Go.Proofs.Ytafonmnfeibaiaa
open Go.RowKit

set_option maxRecDepth 100000 in
set_option maxHeartbeats 8000000 in
theorem wopen_dir {w : World} {t : Nat} {S : Tab} {T : IT.Tr} (h : Tre w t S T) (hh : HB T 999999) (cwd : Int) (c : Cr) (s : ByteArray) (o : Ho) (ho : openB o = true) (hmk : o.make = true) {k j : Nat} {nm : IT.Bytes} {m q : IT.Nd} (he : entryT T c cwd (bs s) = .ok ⟨k, nm, true, some j⟩) (hm : T k = some m) (hq : T j = some q) (hal : o.alone = false) (hk : q.kind = 1) :
    Calls Try.prog 15 #[.pointer (some ⟨t, 0, none⟩), .int .i64 cwd, cred c, .string s, howV o] w fun e w' => ∃ (i : Nat) (r : Int), e = .returned (.tuple #[.int .i64 i, .int .i64 r]) ∧ Stp w t S (fun T' => isOpen T c cwd (bs s) o i r T') w' := by
  have H := Lib.hid h
  have HH := Lib.hid hh
  have HO := Lib.hid ho
  have HE := Lib.hid he
  obtain ⟨want, make, alone, empty, fin, mode⟩ := o
  dsimp only at hmk
  subst hmk
  have h123 : (bits BinOp.andNot .i64 want 6 == 0) = true ∧ (want == 0) = false ∧ Md.rightB mode = true := by
    unfold openB at ho
    simpa using ho
  obtain ⟨h1, h2, h3⟩ := h123
  have e1 : (bits BinOp.andNot .i64 want 6 != 0) = false := by rw [bne, h1]; rfl
  have HR : Hid (∀ W', Calls Try.prog 36 #[.int .i64 mode] W' fun e w' => e = .returned (.bool true) ∧ w' = W') := Lib.hid (fun W' => by
    have := Md.right_any mode W'; rw [h3] at this; exact this)
  clear h1 h3
  obtain ⟨d0, d1, d2, d3, d4, d5, d6, d7, g0, g1, g2, g3, g4, g5, g6, g7, _, hgd, hc⟩ := wentry_some h cwd c s he hm hq
  obtain ⟨C, hC⟩ : ∃ C, C = entG d0 d1 d2 d3 d4 d5 d6 d7 (tx nm) true g0 g1 g2 g3 g4 g5 g6 g7 true := ⟨_, rfl⟩
  rw [← hC] at hc
  have HC := Lib.hid hc
  have HD := Lib.hid (infC_inj hgd)
  have HQ := Lib.hid hq
  clear hc hgd
  dsimp only at hal
  subst hal
  obtain rfl : g1 = 1 := HD.out.2.1.symm.trans hk
  have HK := Lib.hid hk
  clear hk
  have HM : Hid (∀ W', Calls Try.prog 42 #[ask t cwd c, infoV g0 1 g2 g3 g4 g5 g6 g7, .int .i64 want] W' fun e w' => e = .returned (.bool (mayN q c want)) ∧ Below W'.heap.size W' w') := Lib.hid (fun W' => by
    have hh := wmay_any t cwd c g0 1 g2 g3 g4 g5 g6 g7 want W'
    obtain ⟨e0, e1, e2, e3, e4, _, _, _⟩ := HD.out
    rw [← e2, ← e3, ← e4] at hh ⊢
    have e9 : mayN q c want = Md.mayS q.mode q.owner q.group (decide ((1 : Int) = 1)) c.eff c.eg want := by unfold mayN; rw [HK.out]
    rw [e9]
    exact hh)
  unfold ask infoV at HM
  have HL : Hid (∀ (i : Nat) (r : Int) (T' : IT.Tr), isOpened T c ⟨want, true, false, empty, fin, mode⟩ j i r T' → isOpen T c cwd (bs s) ⟨want, true, false, empty, fin, mode⟩ i r T') := Lib.hid (fun i r T' hh => by
    unfold isOpen
    rw [if_neg (by rw [HO.out]; decide), if_pos rfl, HE.out]
    dsimp only
    rw [if_neg (by decide), if_neg (fun hh => hh.2 q HQ.out HK.out)]
    exact hh)
  have HCS : Hid (C.size = 19) := Lib.hid (by rw [hC]; rfl)
  have HC1 : Hid (C.all (·.oneCell') = true) := Lib.hid (by rw [hC]; exact entG_one)
  cases hw : (bits BinOp.and .i64 want 2 != 0) with
  | false =>
    have HW := Lib.hid hw
    have HCX9 : Hid (C[9]? = some (.bool true)) := Lib.hid (by rw [hC]; rfl)
    have HCX10 : Hid (C[10]? = some (.int .i64 g0)) := Lib.hid (by rw [hC]; rfl)
    have HCX11 : Hid (C[11]? = some (.int .i64 1)) := Lib.hid (by rw [hC]; rfl)
    have HCX12 : Hid (C[12]? = some (.int .i64 g2)) := Lib.hid (by rw [hC]; rfl)
    have HCX13 : Hid (C[13]? = some (.int .i64 g3)) := Lib.hid (by rw [hC]; rfl)
    have HCX14 : Hid (C[14]? = some (.int .i64 g4)) := Lib.hid (by rw [hC]; rfl)
    have HCX15 : Hid (C[15]? = some (.int .i64 g5)) := Lib.hid (by rw [hC]; rfl)
    have HCX16 : Hid (C[16]? = some (.int .i64 g6)) := Lib.hid (by rw [hC]; rfl)
    have HCX17 : Hid (C[17]? = some (.int .i64 g7)) := Lib.hid (by rw [hC]; rfl)
    have HCX18 : Hid (C[18]? = some (.bool true)) := Lib.hid (by rw [hC]; rfl)
    clear h hh ho he hC hq hm
    unfold cred howV
    unfold ask at HC
    go_enter Try.func15, Try.ntmps15
    go_wp2_with fail
    refine (HR.out _).mono ?_
    rintro e w2 ⟨rfl, rfl⟩
    go_wp2_with fail
    refine (HC.out _ (belowA (belowA (belowA (belowA (Below.refl _ _) _) _) _) _)).mono ?_
    rintro e w3 ⟨rfl, hb⟩
    obtain ⟨_, q1, q2, q3, hlt, hbb⟩ := four_blocks hb
    have HB := Lib.hid hbb
    have hlt1 : w.heap.size + 1 < w3.heap.size := by omega
    have hlt2 : w.heap.size + 1 + 1 < w3.heap.size := by omega
    clear hb hbb HC HR
    obtain ⟨s1, s2, s3⟩ := stored_whole (w3 := w3) (Z := #[.int .i64 0, .int .i64 0, .int .i64 0, .int .i64 0, .int .i64 0, .int .i64 0, .int .i64 0, .int .i64 0, .string ⟨#[]⟩, .bool false, .int .i64 0, .int .i64 0, .int .i64 0, .int .i64 0, .int .i64 0, .int .i64 0, .int .i64 0, .int .i64 0, .bool false]) (C := C) (TY := 77) HCS.out
    have hT : (w3.alloc (.cells #[.int .i64 0, .int .i64 0, .int .i64 0, .int .i64 0, .int .i64 0, .int .i64 0, .int .i64 0, .int .i64 0, .string ⟨#[]⟩, .bool false, .int .i64 0, .int .i64 0, .int .i64 0, .int .i64 0, .int .i64 0, .int .i64 0, .int .i64 0, .int .i64 0, .bool false] 77)).there w3.heap.size 0 C.size := by rw [HCS.out]; exact there_of (alloc_heap w3 _)
    have hI : (Try.prog.info? 77).map (·.size) = some C.size := by rw [HCS.out]; rfl
    have h1C := HC1.out
    have x9 : (World.setCells (w3.alloc (.cells #[.int .i64 0, .int .i64 0, .int .i64 0, .int .i64 0, .int .i64 0, .int .i64 0, .int .i64 0, .int .i64 0, .string ⟨#[]⟩, .bool false, .int .i64 0, .int .i64 0, .int .i64 0, .int .i64 0, .int .i64 0, .int .i64 0, .int .i64 0, .int .i64 0, .bool false] 77)) w3.heap.size 0 C.toList).cell? ⟨w3.heap.size, 9, none⟩ = some (.bool true) := (cell_of s1 9).trans HCX9.out
    have x10 : (World.setCells (w3.alloc (.cells #[.int .i64 0, .int .i64 0, .int .i64 0, .int .i64 0, .int .i64 0, .int .i64 0, .int .i64 0, .int .i64 0, .string ⟨#[]⟩, .bool false, .int .i64 0, .int .i64 0, .int .i64 0, .int .i64 0, .int .i64 0, .int .i64 0, .int .i64 0, .int .i64 0, .bool false] 77)) w3.heap.size 0 C.toList).cell? ⟨w3.heap.size, 10, none⟩ = some (.int .i64 g0) := (cell_of s1 10).trans HCX10.out
    have x11 : (World.setCells (w3.alloc (.cells #[.int .i64 0, .int .i64 0, .int .i64 0, .int .i64 0, .int .i64 0, .int .i64 0, .int .i64 0, .int .i64 0, .string ⟨#[]⟩, .bool false, .int .i64 0, .int .i64 0, .int .i64 0, .int .i64 0, .int .i64 0, .int .i64 0, .int .i64 0, .int .i64 0, .bool false] 77)) w3.heap.size 0 C.toList).cell? ⟨w3.heap.size, 11, none⟩ = some (.int .i64 1) := (cell_of s1 11).trans HCX11.out
    have x12 : (World.setCells (w3.alloc (.cells #[.int .i64 0, .int .i64 0, .int .i64 0, .int .i64 0, .int .i64 0, .int .i64 0, .int .i64 0, .int .i64 0, .string ⟨#[]⟩, .bool false, .int .i64 0, .int .i64 0, .int .i64 0, .int .i64 0, .int .i64 0, .int .i64 0, .int .i64 0, .int .i64 0, .bool false] 77)) w3.heap.size 0 C.toList).cell? ⟨w3.heap.size, 12, none⟩ = some (.int .i64 g2) := (cell_of s1 12).trans HCX12.out
    have x13 : (World.setCells (w3.alloc (.cells #[.int .i64 0, .int .i64 0, .int .i64 0, .int .i64 0, .int .i64 0, .int .i64 0, .int .i64 0, .int .i64 0, .string ⟨#[]⟩, .bool false, .int .i64 0, .int .i64 0, .int .i64 0, .int .i64 0, .int .i64 0, .int .i64 0, .int .i64 0, .int .i64 0, .bool false] 77)) w3.heap.size 0 C.toList).cell? ⟨w3.heap.size, 13, none⟩ = some (.int .i64 g3) := (cell_of s1 13).trans HCX13.out
    have x14 : (World.setCells (w3.alloc (.cells #[.int .i64 0, .int .i64 0, .int .i64 0, .int .i64 0, .int .i64 0, .int .i64 0, .int .i64 0, .int .i64 0, .string ⟨#[]⟩, .bool false, .int .i64 0, .int .i64 0, .int .i64 0, .int .i64 0, .int .i64 0, .int .i64 0, .int .i64 0, .int .i64 0, .bool false] 77)) w3.heap.size 0 C.toList).cell? ⟨w3.heap.size, 14, none⟩ = some (.int .i64 g4) := (cell_of s1 14).trans HCX14.out
    have x15 : (World.setCells (w3.alloc (.cells #[.int .i64 0, .int .i64 0, .int .i64 0, .int .i64 0, .int .i64 0, .int .i64 0, .int .i64 0, .int .i64 0, .string ⟨#[]⟩, .bool false, .int .i64 0, .int .i64 0, .int .i64 0, .int .i64 0, .int .i64 0, .int .i64 0, .int .i64 0, .int .i64 0, .bool false] 77)) w3.heap.size 0 C.toList).cell? ⟨w3.heap.size, 15, none⟩ = some (.int .i64 g5) := (cell_of s1 15).trans HCX15.out
    have x16 : (World.setCells (w3.alloc (.cells #[.int .i64 0, .int .i64 0, .int .i64 0, .int .i64 0, .int .i64 0, .int .i64 0, .int .i64 0, .int .i64 0, .string ⟨#[]⟩, .bool false, .int .i64 0, .int .i64 0, .int .i64 0, .int .i64 0, .int .i64 0, .int .i64 0, .int .i64 0, .int .i64 0, .bool false] 77)) w3.heap.size 0 C.toList).cell? ⟨w3.heap.size, 16, none⟩ = some (.int .i64 g6) := (cell_of s1 16).trans HCX16.out
    have x17 : (World.setCells (w3.alloc (.cells #[.int .i64 0, .int .i64 0, .int .i64 0, .int .i64 0, .int .i64 0, .int .i64 0, .int .i64 0, .int .i64 0, .string ⟨#[]⟩, .bool false, .int .i64 0, .int .i64 0, .int .i64 0, .int .i64 0, .int .i64 0, .int .i64 0, .int .i64 0, .int .i64 0, .bool false] 77)) w3.heap.size 0 C.toList).cell? ⟨w3.heap.size, 17, none⟩ = some (.int .i64 g7) := (cell_of s1 17).trans HCX17.out
    have x18 : (World.setCells (w3.alloc (.cells #[.int .i64 0, .int .i64 0, .int .i64 0, .int .i64 0, .int .i64 0, .int .i64 0, .int .i64 0, .int .i64 0, .string ⟨#[]⟩, .bool false, .int .i64 0, .int .i64 0, .int .i64 0, .int .i64 0, .int .i64 0, .int .i64 0, .int .i64 0, .int .i64 0, .bool false] 77)) w3.heap.size 0 C.toList).cell? ⟨w3.heap.size, 18, none⟩ = some (.bool true) := (cell_of s1 18).trans HCX18.out
    have huB := (s2.block _ hlt1).trans q1
    have huL : w.heap.size + 1 < (World.setCells (w3.alloc (.cells #[.int .i64 0, .int .i64 0, .int .i64 0, .int .i64 0, .int .i64 0, .int .i64 0, .int .i64 0, .int .i64 0, .string ⟨#[]⟩, .bool false, .int .i64 0, .int .i64 0, .int .i64 0, .int .i64 0, .int .i64 0, .int .i64 0, .int .i64 0, .int .i64 0, .bool false] 77)) w3.heap.size 0 C.toList).heap.size := by have := hlt1; omega
    have u0 : (World.setCells (w3.alloc (.cells #[.int .i64 0, .int .i64 0, .int .i64 0, .int .i64 0, .int .i64 0, .int .i64 0, .int .i64 0, .int .i64 0, .string ⟨#[]⟩, .bool false, .int .i64 0, .int .i64 0, .int .i64 0, .int .i64 0, .int .i64 0, .int .i64 0, .int .i64 0, .int .i64 0, .bool false] 77)) w3.heap.size 0 C.toList).cell? ⟨w.heap.size + 1, 0, none⟩ = some (.int .i64 want) := cell_of huB 0
    have u2 : (World.setCells (w3.alloc (.cells #[.int .i64 0, .int .i64 0, .int .i64 0, .int .i64 0, .int .i64 0, .int .i64 0, .int .i64 0, .int .i64 0, .string ⟨#[]⟩, .bool false, .int .i64 0, .int .i64 0, .int .i64 0, .int .i64 0, .int .i64 0, .int .i64 0, .int .i64 0, .int .i64 0, .bool false] 77)) w3.heap.size 0 C.toList).cell? ⟨w.heap.size + 1, 2, none⟩ = some (.bool false) := cell_of huB 2
    have u3 : (World.setCells (w3.alloc (.cells #[.int .i64 0, .int .i64 0, .int .i64 0, .int .i64 0, .int .i64 0, .int .i64 0, .int .i64 0, .int .i64 0, .string ⟨#[]⟩, .bool false, .int .i64 0, .int .i64 0, .int .i64 0, .int .i64 0, .int .i64 0, .int .i64 0, .int .i64 0, .int .i64 0, .bool false] 77)) w3.heap.size 0 C.toList).cell? ⟨w.heap.size + 1, 3, none⟩ = some (.bool empty) := cell_of huB 3
    have haB := (s2.block _ hlt2).trans q2
    have haL : w.heap.size + 1 + 1 < (World.setCells (w3.alloc (.cells #[.int .i64 0, .int .i64 0, .int .i64 0, .int .i64 0, .int .i64 0, .int .i64 0, .int .i64 0, .int .i64 0, .string ⟨#[]⟩, .bool false, .int .i64 0, .int .i64 0, .int .i64 0, .int .i64 0, .int .i64 0, .int .i64 0, .int .i64 0, .int .i64 0, .bool false] 77)) w3.heap.size 0 C.toList).heap.size := by have := hlt2; omega
    have a0 : (World.setCells (w3.alloc (.cells #[.int .i64 0, .int .i64 0, .int .i64 0, .int .i64 0, .int .i64 0, .int .i64 0, .int .i64 0, .int .i64 0, .string ⟨#[]⟩, .bool false, .int .i64 0, .int .i64 0, .int .i64 0, .int .i64 0, .int .i64 0, .int .i64 0, .int .i64 0, .int .i64 0, .bool false] 77)) w3.heap.size 0 C.toList).cell? ⟨w.heap.size + 1 + 1, 0, none⟩ = some (.pointer (some ⟨t, 0, none⟩)) := cell_of haB 0
    have a1 : (World.setCells (w3.alloc (.cells #[.int .i64 0, .int .i64 0, .int .i64 0, .int .i64 0, .int .i64 0, .int .i64 0, .int .i64 0, .int .i64 0, .string ⟨#[]⟩, .bool false, .int .i64 0, .int .i64 0, .int .i64 0, .int .i64 0, .int .i64 0, .int .i64 0, .int .i64 0, .int .i64 0, .bool false] 77)) w3.heap.size 0 C.toList).cell? ⟨w.heap.size + 1 + 1, 1, none⟩ = some (.int .i64 cwd) := cell_of haB 1
    have a2 : (World.setCells (w3.alloc (.cells #[.int .i64 0, .int .i64 0, .int .i64 0, .int .i64 0, .int .i64 0, .int .i64 0, .int .i64 0, .int .i64 0, .string ⟨#[]⟩, .bool false, .int .i64 0, .int .i64 0, .int .i64 0, .int .i64 0, .int .i64 0, .int .i64 0, .int .i64 0, .int .i64 0, .bool false] 77)) w3.heap.size 0 C.toList).cell? ⟨w.heap.size + 1 + 1, 2, none⟩ = some (.int .i64 c.real) := cell_of haB 2
    have a3 : (World.setCells (w3.alloc (.cells #[.int .i64 0, .int .i64 0, .int .i64 0, .int .i64 0, .int .i64 0, .int .i64 0, .int .i64 0, .int .i64 0, .string ⟨#[]⟩, .bool false, .int .i64 0, .int .i64 0, .int .i64 0, .int .i64 0, .int .i64 0, .int .i64 0, .int .i64 0, .int .i64 0, .bool false] 77)) w3.heap.size 0 C.toList).cell? ⟨w.heap.size + 1 + 1, 3, none⟩ = some (.int .i64 c.eff) := cell_of haB 3
    have a4 : (World.setCells (w3.alloc (.cells #[.int .i64 0, .int .i64 0, .int .i64 0, .int .i64 0, .int .i64 0, .int .i64 0, .int .i64 0, .int .i64 0, .string ⟨#[]⟩, .bool false, .int .i64 0, .int .i64 0, .int .i64 0, .int .i64 0, .int .i64 0, .int .i64 0, .int .i64 0, .int .i64 0, .bool false] 77)) w3.heap.size 0 C.toList).cell? ⟨w.heap.size + 1 + 1, 4, none⟩ = some (.int .i64 c.saved) := cell_of haB 4
    have a5 : (World.setCells (w3.alloc (.cells #[.int .i64 0, .int .i64 0, .int .i64 0, .int .i64 0, .int .i64 0, .int .i64 0, .int .i64 0, .int .i64 0, .string ⟨#[]⟩, .bool false, .int .i64 0, .int .i64 0, .int .i64 0, .int .i64 0, .int .i64 0, .int .i64 0, .int .i64 0, .int .i64 0, .bool false] 77)) w3.heap.size 0 C.toList).cell? ⟨w.heap.size + 1 + 1, 5, none⟩ = some (.int .i64 c.group) := cell_of haB 5
    have a6 : (World.setCells (w3.alloc (.cells #[.int .i64 0, .int .i64 0, .int .i64 0, .int .i64 0, .int .i64 0, .int .i64 0, .int .i64 0, .int .i64 0, .string ⟨#[]⟩, .bool false, .int .i64 0, .int .i64 0, .int .i64 0, .int .i64 0, .int .i64 0, .int .i64 0, .int .i64 0, .int .i64 0, .bool false] 77)) w3.heap.size 0 C.toList).cell? ⟨w.heap.size + 1 + 1, 6, none⟩ = some (.int .i64 c.eg) := cell_of haB 6
    have hpB := (s2.block _ hlt).trans q3
    have hpL : w.heap.size + 1 + 1 + 1 < (World.setCells (w3.alloc (.cells #[.int .i64 0, .int .i64 0, .int .i64 0, .int .i64 0, .int .i64 0, .int .i64 0, .int .i64 0, .int .i64 0, .string ⟨#[]⟩, .bool false, .int .i64 0, .int .i64 0, .int .i64 0, .int .i64 0, .int .i64 0, .int .i64 0, .int .i64 0, .int .i64 0, .bool false] 77)) w3.heap.size 0 C.toList).heap.size := by have := hlt; omega
    have p0 : (World.setCells (w3.alloc (.cells #[.int .i64 0, .int .i64 0, .int .i64 0, .int .i64 0, .int .i64 0, .int .i64 0, .int .i64 0, .int .i64 0, .string ⟨#[]⟩, .bool false, .int .i64 0, .int .i64 0, .int .i64 0, .int .i64 0, .int .i64 0, .int .i64 0, .int .i64 0, .int .i64 0, .bool false] 77)) w3.heap.size 0 C.toList).cell? ⟨w.heap.size + 1 + 1 + 1, 0, none⟩ = some (.int .i64 0) := cell_of hpB 0
    have p1 : (World.setCells (w3.alloc (.cells #[.int .i64 0, .int .i64 0, .int .i64 0, .int .i64 0, .int .i64 0, .int .i64 0, .int .i64 0, .int .i64 0, .string ⟨#[]⟩, .bool false, .int .i64 0, .int .i64 0, .int .i64 0, .int .i64 0, .int .i64 0, .int .i64 0, .int .i64 0, .int .i64 0, .bool false] 77)) w3.heap.size 0 C.toList).cell? ⟨w.heap.size + 1 + 1 + 1, 1, none⟩ = some (.int .i64 0) := cell_of hpB 1
    have p2 : (World.setCells (w3.alloc (.cells #[.int .i64 0, .int .i64 0, .int .i64 0, .int .i64 0, .int .i64 0, .int .i64 0, .int .i64 0, .int .i64 0, .string ⟨#[]⟩, .bool false, .int .i64 0, .int .i64 0, .int .i64 0, .int .i64 0, .int .i64 0, .int .i64 0, .int .i64 0, .int .i64 0, .bool false] 77)) w3.heap.size 0 C.toList).cell? ⟨w.heap.size + 1 + 1 + 1, 2, none⟩ = some (.int .i64 0) := cell_of hpB 2
    have p3 : (World.setCells (w3.alloc (.cells #[.int .i64 0, .int .i64 0, .int .i64 0, .int .i64 0, .int .i64 0, .int .i64 0, .int .i64 0, .int .i64 0, .string ⟨#[]⟩, .bool false, .int .i64 0, .int .i64 0, .int .i64 0, .int .i64 0, .int .i64 0, .int .i64 0, .int .i64 0, .int .i64 0, .bool false] 77)) w3.heap.size 0 C.toList).cell? ⟨w.heap.size + 1 + 1 + 1, 3, none⟩ = some (.int .i64 0) := cell_of hpB 3
    have p4 : (World.setCells (w3.alloc (.cells #[.int .i64 0, .int .i64 0, .int .i64 0, .int .i64 0, .int .i64 0, .int .i64 0, .int .i64 0, .int .i64 0, .string ⟨#[]⟩, .bool false, .int .i64 0, .int .i64 0, .int .i64 0, .int .i64 0, .int .i64 0, .int .i64 0, .int .i64 0, .int .i64 0, .bool false] 77)) w3.heap.size 0 C.toList).cell? ⟨w.heap.size + 1 + 1 + 1, 4, none⟩ = some (.int .i64 0) := cell_of hpB 4
    have p5 : (World.setCells (w3.alloc (.cells #[.int .i64 0, .int .i64 0, .int .i64 0, .int .i64 0, .int .i64 0, .int .i64 0, .int .i64 0, .int .i64 0, .string ⟨#[]⟩, .bool false, .int .i64 0, .int .i64 0, .int .i64 0, .int .i64 0, .int .i64 0, .int .i64 0, .int .i64 0, .int .i64 0, .bool false] 77)) w3.heap.size 0 C.toList).cell? ⟨w.heap.size + 1 + 1 + 1, 5, none⟩ = some (.int .i64 0) := cell_of hpB 5
    have p6 : (World.setCells (w3.alloc (.cells #[.int .i64 0, .int .i64 0, .int .i64 0, .int .i64 0, .int .i64 0, .int .i64 0, .int .i64 0, .int .i64 0, .string ⟨#[]⟩, .bool false, .int .i64 0, .int .i64 0, .int .i64 0, .int .i64 0, .int .i64 0, .int .i64 0, .int .i64 0, .int .i64 0, .bool false] 77)) w3.heap.size 0 C.toList).cell? ⟨w.heap.size + 1 + 1 + 1, 6, none⟩ = some (.int .i64 0) := cell_of hpB 6
    have p7 : (World.setCells (w3.alloc (.cells #[.int .i64 0, .int .i64 0, .int .i64 0, .int .i64 0, .int .i64 0, .int .i64 0, .int .i64 0, .int .i64 0, .string ⟨#[]⟩, .bool false, .int .i64 0, .int .i64 0, .int .i64 0, .int .i64 0, .int .i64 0, .int .i64 0, .int .i64 0, .int .i64 0, .bool false] 77)) w3.heap.size 0 C.toList).cell? ⟨w.heap.size + 1 + 1 + 1, 7, none⟩ = some (.int .i64 0) := cell_of hpB 7
    have s5 : ∀ i, (World.setCells (w3.alloc (.cells #[.int .i64 0, .int .i64 0, .int .i64 0, .int .i64 0, .int .i64 0, .int .i64 0, .int .i64 0, .int .i64 0, .string ⟨#[]⟩, .bool false, .int .i64 0, .int .i64 0, .int .i64 0, .int .i64 0, .int .i64 0, .int .i64 0, .int .i64 0, .int .i64 0, .bool false] 77)) w3.heap.size 0 C.toList).frozen? ⟨w.heap.size + 1 + 1 + 1, i, none⟩ = false := fun i => frozen_of hpB i
    have z0 : (World.setCells (w3.alloc (.cells #[.int .i64 0, .int .i64 0, .int .i64 0, .int .i64 0, .int .i64 0, .int .i64 0, .int .i64 0, .int .i64 0, .string ⟨#[]⟩, .bool false, .int .i64 0, .int .i64 0, .int .i64 0, .int .i64 0, .int .i64 0, .int .i64 0, .int .i64 0, .int .i64 0, .bool false] 77)) w3.heap.size 0 C.toList).frozen? ⟨w.heap.size + 1 + 1 + 1, 0, none⟩ = false := s5 0
    have z1 : (World.setCells (w3.alloc (.cells #[.int .i64 0, .int .i64 0, .int .i64 0, .int .i64 0, .int .i64 0, .int .i64 0, .int .i64 0, .int .i64 0, .string ⟨#[]⟩, .bool false, .int .i64 0, .int .i64 0, .int .i64 0, .int .i64 0, .int .i64 0, .int .i64 0, .int .i64 0, .int .i64 0, .bool false] 77)) w3.heap.size 0 C.toList).frozen? ⟨w.heap.size + 1 + 1 + 1, 1, none⟩ = false := s5 1
    have z2 : (World.setCells (w3.alloc (.cells #[.int .i64 0, .int .i64 0, .int .i64 0, .int .i64 0, .int .i64 0, .int .i64 0, .int .i64 0, .int .i64 0, .string ⟨#[]⟩, .bool false, .int .i64 0, .int .i64 0, .int .i64 0, .int .i64 0, .int .i64 0, .int .i64 0, .int .i64 0, .int .i64 0, .bool false] 77)) w3.heap.size 0 C.toList).frozen? ⟨w.heap.size + 1 + 1 + 1, 2, none⟩ = false := s5 2
    have z3 : (World.setCells (w3.alloc (.cells #[.int .i64 0, .int .i64 0, .int .i64 0, .int .i64 0, .int .i64 0, .int .i64 0, .int .i64 0, .int .i64 0, .string ⟨#[]⟩, .bool false, .int .i64 0, .int .i64 0, .int .i64 0, .int .i64 0, .int .i64 0, .int .i64 0, .int .i64 0, .int .i64 0, .bool false] 77)) w3.heap.size 0 C.toList).frozen? ⟨w.heap.size + 1 + 1 + 1, 3, none⟩ = false := s5 3
    have z4 : (World.setCells (w3.alloc (.cells #[.int .i64 0, .int .i64 0, .int .i64 0, .int .i64 0, .int .i64 0, .int .i64 0, .int .i64 0, .int .i64 0, .string ⟨#[]⟩, .bool false, .int .i64 0, .int .i64 0, .int .i64 0, .int .i64 0, .int .i64 0, .int .i64 0, .int .i64 0, .int .i64 0, .bool false] 77)) w3.heap.size 0 C.toList).frozen? ⟨w.heap.size + 1 + 1 + 1, 4, none⟩ = false := s5 4
    have z5 : (World.setCells (w3.alloc (.cells #[.int .i64 0, .int .i64 0, .int .i64 0, .int .i64 0, .int .i64 0, .int .i64 0, .int .i64 0, .int .i64 0, .string ⟨#[]⟩, .bool false, .int .i64 0, .int .i64 0, .int .i64 0, .int .i64 0, .int .i64 0, .int .i64 0, .int .i64 0, .int .i64 0, .bool false] 77)) w3.heap.size 0 C.toList).frozen? ⟨w.heap.size + 1 + 1 + 1, 5, none⟩ = false := s5 5
    have z6 : (World.setCells (w3.alloc (.cells #[.int .i64 0, .int .i64 0, .int .i64 0, .int .i64 0, .int .i64 0, .int .i64 0, .int .i64 0, .int .i64 0, .string ⟨#[]⟩, .bool false, .int .i64 0, .int .i64 0, .int .i64 0, .int .i64 0, .int .i64 0, .int .i64 0, .int .i64 0, .int .i64 0, .bool false] 77)) w3.heap.size 0 C.toList).frozen? ⟨w.heap.size + 1 + 1 + 1, 6, none⟩ = false := s5 6
    have z7 : (World.setCells (w3.alloc (.cells #[.int .i64 0, .int .i64 0, .int .i64 0, .int .i64 0, .int .i64 0, .int .i64 0, .int .i64 0, .int .i64 0, .string ⟨#[]⟩, .bool false, .int .i64 0, .int .i64 0, .int .i64 0, .int .i64 0, .int .i64 0, .int .i64 0, .int .i64 0, .int .i64 0, .bool false] 77)) w3.heap.size 0 C.toList).frozen? ⟨w.heap.size + 1 + 1 + 1, 7, none⟩ = false := s5 7
    clear s5
    clear q1 q2 q3
    go_upto_region 22 with (refine wpList_store_mid rfl 77 _ _ rfl w3.heap.size 0 C rfl rfl hT hI h1C ?_; generalize World.setCells (w3.alloc (.cells #[.int .i64 0, .int .i64 0, .int .i64 0, .int .i64 0, .int .i64 0, .int .i64 0, .int .i64 0, .int .i64 0, .string ⟨#[]⟩, .bool false, .int .i64 0, .int .i64 0, .int .i64 0, .int .i64 0, .int .i64 0, .int .i64 0, .int .i64 0, .int .i64 0, .bool false] 77)) w3.heap.size 0 C.toList = W5 at s1 s2 s3 x9 x10 x11 x12 x13 x14 x15 x16 x17 x18 huB huL u0 u2 u3 haB haL a0 a1 a2 a3 a4 a5 a6 hpB hpL p0 p1 p2 p3 p4 p5 p6 p7 z0 z1 z2 z3 z4 z5 z6 z7 ⊢)
    have HB3 : Hid (Below w.heap.size w W5) := Lib.hid (HB.out.trans (s2.mono HB.out.size))
    have hb4 := below_set8 (R := w.heap.size + 1 + 1 + 1) (v0 := .int .i64 g0) (v1 := .int .i64 1) (v2 := .int .i64 g2) (v3 := .int .i64 g3) (v4 := .int .i64 g4) (v5 := .int .i64 g5) (v6 := .int .i64 g6) (v7 := .int .i64 g7) HB3.out (by omega)
    have t3 := heap_set8 (v0 := .int .i64 g0) (v1 := .int .i64 1) (v2 := .int .i64 g2) (v3 := .int .i64 g3) (v4 := .int .i64 g4) (v5 := .int .i64 g5) (v6 := .int .i64 g6) (v7 := .int .i64 g7) hpB
    have t1 := (heap_set8_other (R := w.heap.size + 1 + 1 + 1) (v0 := .int .i64 g0) (v1 := .int .i64 1) (v2 := .int .i64 g2) (v3 := .int .i64 g3) (v4 := .int .i64 g4) (v5 := .int .i64 g5) (v6 := .int .i64 g6) (v7 := .int .i64 g7) (b := w.heap.size + 1) (by omega)).trans huB
    have t2 := (heap_set8_other (R := w.heap.size + 1 + 1 + 1) (v0 := .int .i64 g0) (v1 := .int .i64 1) (v2 := .int .i64 g2) (v3 := .int .i64 g3) (v4 := .int .i64 g4) (v5 := .int .i64 g5) (v6 := .int .i64 g6) (v7 := .int .i64 g7) (b := w.heap.size + 1 + 1) (by omega)).trans haB
    clear x9 x10 x11 x12 x13 x14 x15 x16 x17 x18 hT hI h1C s1 s2 s3 huB haB hpB haL hpL huL p0 z0 p1 z1 p2 z2 p3 z3 p4 z4 p5 z5 p6 z6 p7 z7 a0 a1 a2 a3 a4 a5 a6 u0 u2 u3
    generalize ((((((((W5.setCell ⟨w.heap.size + 1 + 1 + 1, 0, none⟩ (.int .i64 g0)).setCell ⟨w.heap.size + 1 + 1 + 1, 1, none⟩ (.int .i64 1)).setCell ⟨w.heap.size + 1 + 1 + 1, 2, none⟩ (.int .i64 g2)).setCell ⟨w.heap.size + 1 + 1 + 1, 3, none⟩ (.int .i64 g3)).setCell ⟨w.heap.size + 1 + 1 + 1, 4, none⟩ (.int .i64 g4)).setCell ⟨w.heap.size + 1 + 1 + 1, 5, none⟩ (.int .i64 g5)).setCell ⟨w.heap.size + 1 + 1 + 1, 6, none⟩ (.int .i64 g6)).setCell ⟨w.heap.size + 1 + 1 + 1, 7, none⟩ (.int .i64 g7)) = W6 at hb4 t3 t1 t2 ⊢
    have HB4 := Lib.hid hb4
    have y0 : W6.cell? ⟨w.heap.size + 1 + 1 + 1, 0, none⟩ = some (.int .i64 g0) := cell_of t3 0
    have y1 : W6.cell? ⟨w.heap.size + 1 + 1 + 1, 1, none⟩ = some (.int .i64 1) := cell_of t3 1
    have y2 : W6.cell? ⟨w.heap.size + 1 + 1 + 1, 2, none⟩ = some (.int .i64 g2) := cell_of t3 2
    have y3 : W6.cell? ⟨w.heap.size + 1 + 1 + 1, 3, none⟩ = some (.int .i64 g3) := cell_of t3 3
    have y4 : W6.cell? ⟨w.heap.size + 1 + 1 + 1, 4, none⟩ = some (.int .i64 g4) := cell_of t3 4
    have y5 : W6.cell? ⟨w.heap.size + 1 + 1 + 1, 5, none⟩ = some (.int .i64 g5) := cell_of t3 5
    have y6 : W6.cell? ⟨w.heap.size + 1 + 1 + 1, 6, none⟩ = some (.int .i64 g6) := cell_of t3 6
    have y7 : W6.cell? ⟨w.heap.size + 1 + 1 + 1, 7, none⟩ = some (.int .i64 g7) := cell_of t3 7
    have u0 : W6.cell? ⟨w.heap.size + 1, 0, none⟩ = some (.int .i64 want) := cell_of t1 0
    have u3 : W6.cell? ⟨w.heap.size + 1, 3, none⟩ = some (.bool empty) := cell_of t1 3
    have a0 : W6.cell? ⟨w.heap.size + 1 + 1, 0, none⟩ = some (.pointer (some ⟨t, 0, none⟩)) := cell_of t2 0
    have a1 : W6.cell? ⟨w.heap.size + 1 + 1, 1, none⟩ = some (.int .i64 cwd) := cell_of t2 1
    have a2 : W6.cell? ⟨w.heap.size + 1 + 1, 2, none⟩ = some (.int .i64 c.real) := cell_of t2 2
    have a3 : W6.cell? ⟨w.heap.size + 1 + 1, 3, none⟩ = some (.int .i64 c.eff) := cell_of t2 3
    have a4 : W6.cell? ⟨w.heap.size + 1 + 1, 4, none⟩ = some (.int .i64 c.saved) := cell_of t2 4
    have a5 : W6.cell? ⟨w.heap.size + 1 + 1, 5, none⟩ = some (.int .i64 c.group) := cell_of t2 5
    have a6 : W6.cell? ⟨w.heap.size + 1 + 1, 6, none⟩ = some (.int .i64 c.eg) := cell_of t2 6
    have T3 := Lib.hid t3
    have T1 := Lib.hid t1
    clear hb4 t3 t1 t2
    go_wp2_with fail
    refine (HM.out _).mono ?_
    rintro e w5 ⟨rfl, hb5⟩
    have HB5 : Hid (Below w.heap.size w w5) := Lib.hid (HB4.out.trans (hb5.mono HB4.out.size))
    have t3 := (hb5.block (w.heap.size + 1 + 1 + 1) (lt_of_heap T3.out)).trans T3.out
    have t1 := (hb5.block (w.heap.size + 1) (lt_of_heap T1.out)).trans T1.out
    clear hb5 T3 T1 y0 y1 y2 y3 y4 y5 y6 y7 u0 u3 a0 a1 a2 a3 a4 a5 a6
    cases hmy : mayN q c want with
    | false =>
      have HMY := Lib.hid hmy
      clear hmy t1 t3
      go_wp2
      go_ret2
      refine ⟨0, 4, rfl, Stp.keepB H.out HB5.out (HL.out _ _ _ ⟨q, HQ.out, ?_⟩)⟩
      rw [if_neg (fun hh => by have := HW.out.symm.trans hh.1; cases this), if_pos HMY.out]
      exact ⟨rfl, rfl, rfl⟩
    | true =>
      have HMY := Lib.hid hmy
      have y0 : w5.cell? ⟨w.heap.size + 1 + 1 + 1, 0, none⟩ = some (.int .i64 g0) := cell_of t3 0
      have T3 := Lib.hid t3
      have T1 := Lib.hid t1
      clear hmy t1 t3
      go_wp2_with fail
      refine (hold_any (H.out.mv ((Mv.refl H.out.rep).below HB5.out)) (HH.out.mono (by decide)) g0).mono ?_
      rintro e w6 ⟨b, rfl, hs⟩
      obtain ⟨S1, T1x, m1, ht1, hr1⟩ := hs.tre fun T' hT' => hT'.sound H.out.snd
      have fr3 : Fr w5 t S (w.heap.size + 1 + 1 + 1) := Fr.new H.out.rep (by omega) (lt_of_heap T3.out)
      have fr1 : Fr w5 t S (w.heap.size + 1) := Fr.new H.out.rep (by omega) (lt_of_heap T1.out)
      have z3 := (fr3.heap m1).trans T3.out
      have z1 := (fr1.heap m1).trans T1.out
      have y0 : w6.cell? ⟨w.heap.size + 1 + 1 + 1, 0, none⟩ = some (.int .i64 g0) := cell_of z3 0
      have y1 : w6.cell? ⟨w.heap.size + 1 + 1 + 1, 1, none⟩ = some (.int .i64 1) := cell_of z3 1
      have y3 : w6.cell? ⟨w.heap.size + 1, 3, none⟩ = some (.bool empty) := cell_of z1 3
      have FR3 := Lib.hid (fr3.mv m1)
      have Z3 := Lib.hid z3
      have HG1 := Lib.hid (((Mv.refl H.out.rep).below HB5.out).trans m1)
      have HT1 := Lib.hid ht1
      have HR1 : Hid (IT.isHold T j b T1x) := Lib.hid (by rw [← HD.out.1] at hr1; exact hr1)
      clear hs m1 ht1 hr1 fr3 fr1 z3 z1
      have hleaf : ∀ (T' : IT.Tr), (if empty = true ∧ (bits BinOp.and .i64 want 2 != 0) = true ∧ q.kind = 0 then ∃ r2 T2, IT.isCut T1x j r2 T2 ∧ isPlainer T2 j T' else T' = T1x) → isOpen T c cwd (bs s) ⟨want, true, false, empty, fin, mode⟩ j 0 T' := fun T' hl => by
        refine HL.out _ _ _ ⟨q, HQ.out, ?_⟩
        rw [if_neg (fun hh => by have := HW.out.symm.trans hh.1; cases this), if_neg (by rw [HMY.out]; decide)]
        exact ⟨rfl, rfl, b, T1x, HR1.out, hl⟩
      have HLF := Lib.hid hleaf
      clear hleaf
      cases empty <;>
      · go_wp2
        go_ret2
        exact ⟨j, 0, by rw [HD.out.1]; rfl, S1, T1x, HG1.out, HT1.out.ties, HLF.out _ (by rw [if_neg (fun hh => by have := HW.out.symm.trans hh.2.1; cases this)])⟩
  | true =>
    have HW := Lib.hid hw
    clear HM
    have HCX9 : Hid (C[9]? = some (.bool true)) := Lib.hid (by rw [hC]; rfl)
    have HCX10 : Hid (C[10]? = some (.int .i64 g0)) := Lib.hid (by rw [hC]; rfl)
    have HCX11 : Hid (C[11]? = some (.int .i64 1)) := Lib.hid (by rw [hC]; rfl)
    have HCX12 : Hid (C[12]? = some (.int .i64 g2)) := Lib.hid (by rw [hC]; rfl)
    have HCX13 : Hid (C[13]? = some (.int .i64 g3)) := Lib.hid (by rw [hC]; rfl)
    have HCX14 : Hid (C[14]? = some (.int .i64 g4)) := Lib.hid (by rw [hC]; rfl)
    have HCX15 : Hid (C[15]? = some (.int .i64 g5)) := Lib.hid (by rw [hC]; rfl)
    have HCX16 : Hid (C[16]? = some (.int .i64 g6)) := Lib.hid (by rw [hC]; rfl)
    have HCX17 : Hid (C[17]? = some (.int .i64 g7)) := Lib.hid (by rw [hC]; rfl)
    have HCX18 : Hid (C[18]? = some (.bool true)) := Lib.hid (by rw [hC]; rfl)
    clear h hh ho he hC hq hm
    unfold cred howV
    unfold ask at HC
    go_enter Try.func15, Try.ntmps15
    go_wp2_with fail
    refine (HR.out _).mono ?_
    rintro e w2 ⟨rfl, rfl⟩
    go_wp2_with fail
    refine (HC.out _ (belowA (belowA (belowA (belowA (Below.refl _ _) _) _) _) _)).mono ?_
    rintro e w3 ⟨rfl, hb⟩
    obtain ⟨_, q1, q2, q3, hlt, hbb⟩ := four_blocks hb
    have HB := Lib.hid hbb
    have hlt1 : w.heap.size + 1 < w3.heap.size := by omega
    have hlt2 : w.heap.size + 1 + 1 < w3.heap.size := by omega
    clear hb hbb HC HR
    obtain ⟨s1, s2, s3⟩ := stored_whole (w3 := w3) (Z := #[.int .i64 0, .int .i64 0, .int .i64 0, .int .i64 0, .int .i64 0, .int .i64 0, .int .i64 0, .int .i64 0, .string ⟨#[]⟩, .bool false, .int .i64 0, .int .i64 0, .int .i64 0, .int .i64 0, .int .i64 0, .int .i64 0, .int .i64 0, .int .i64 0, .bool false]) (C := C) (TY := 77) HCS.out
    have hT : (w3.alloc (.cells #[.int .i64 0, .int .i64 0, .int .i64 0, .int .i64 0, .int .i64 0, .int .i64 0, .int .i64 0, .int .i64 0, .string ⟨#[]⟩, .bool false, .int .i64 0, .int .i64 0, .int .i64 0, .int .i64 0, .int .i64 0, .int .i64 0, .int .i64 0, .int .i64 0, .bool false] 77)).there w3.heap.size 0 C.size := by rw [HCS.out]; exact there_of (alloc_heap w3 _)
    have hI : (Try.prog.info? 77).map (·.size) = some C.size := by rw [HCS.out]; rfl
    have h1C := HC1.out
    have x9 : (World.setCells (w3.alloc (.cells #[.int .i64 0, .int .i64 0, .int .i64 0, .int .i64 0, .int .i64 0, .int .i64 0, .int .i64 0, .int .i64 0, .string ⟨#[]⟩, .bool false, .int .i64 0, .int .i64 0, .int .i64 0, .int .i64 0, .int .i64 0, .int .i64 0, .int .i64 0, .int .i64 0, .bool false] 77)) w3.heap.size 0 C.toList).cell? ⟨w3.heap.size, 9, none⟩ = some (.bool true) := (cell_of s1 9).trans HCX9.out
    have x10 : (World.setCells (w3.alloc (.cells #[.int .i64 0, .int .i64 0, .int .i64 0, .int .i64 0, .int .i64 0, .int .i64 0, .int .i64 0, .int .i64 0, .string ⟨#[]⟩, .bool false, .int .i64 0, .int .i64 0, .int .i64 0, .int .i64 0, .int .i64 0, .int .i64 0, .int .i64 0, .int .i64 0, .bool false] 77)) w3.heap.size 0 C.toList).cell? ⟨w3.heap.size, 10, none⟩ = some (.int .i64 g0) := (cell_of s1 10).trans HCX10.out
    have x11 : (World.setCells (w3.alloc (.cells #[.int .i64 0, .int .i64 0, .int .i64 0, .int .i64 0, .int .i64 0, .int .i64 0, .int .i64 0, .int .i64 0, .string ⟨#[]⟩, .bool false, .int .i64 0, .int .i64 0, .int .i64 0, .int .i64 0, .int .i64 0, .int .i64 0, .int .i64 0, .int .i64 0, .bool false] 77)) w3.heap.size 0 C.toList).cell? ⟨w3.heap.size, 11, none⟩ = some (.int .i64 1) := (cell_of s1 11).trans HCX11.out
    have x12 : (World.setCells (w3.alloc (.cells #[.int .i64 0, .int .i64 0, .int .i64 0, .int .i64 0, .int .i64 0, .int .i64 0, .int .i64 0, .int .i64 0, .string ⟨#[]⟩, .bool false, .int .i64 0, .int .i64 0, .int .i64 0, .int .i64 0, .int .i64 0, .int .i64 0, .int .i64 0, .int .i64 0, .bool false] 77)) w3.heap.size 0 C.toList).cell? ⟨w3.heap.size, 12, none⟩ = some (.int .i64 g2) := (cell_of s1 12).trans HCX12.out
    have x13 : (World.setCells (w3.alloc (.cells #[.int .i64 0, .int .i64 0, .int .i64 0, .int .i64 0, .int .i64 0, .int .i64 0, .int .i64 0, .int .i64 0, .string ⟨#[]⟩, .bool false, .int .i64 0, .int .i64 0, .int .i64 0, .int .i64 0, .int .i64 0, .int .i64 0, .int .i64 0, .int .i64 0, .bool false] 77)) w3.heap.size 0 C.toList).cell? ⟨w3.heap.size, 13, none⟩ = some (.int .i64 g3) := (cell_of s1 13).trans HCX13.out
    have x14 : (World.setCells (w3.alloc (.cells #[.int .i64 0, .int .i64 0, .int .i64 0, .int .i64 0, .int .i64 0, .int .i64 0, .int .i64 0, .int .i64 0, .string ⟨#[]⟩, .bool false, .int .i64 0, .int .i64 0, .int .i64 0, .int .i64 0, .int .i64 0, .int .i64 0, .int .i64 0, .int .i64 0, .bool false] 77)) w3.heap.size 0 C.toList).cell? ⟨w3.heap.size, 14, none⟩ = some (.int .i64 g4) := (cell_of s1 14).trans HCX14.out
    have x15 : (World.setCells (w3.alloc (.cells #[.int .i64 0, .int .i64 0, .int .i64 0, .int .i64 0, .int .i64 0, .int .i64 0, .int .i64 0, .int .i64 0, .string ⟨#[]⟩, .bool false, .int .i64 0, .int .i64 0, .int .i64 0, .int .i64 0, .int .i64 0, .int .i64 0, .int .i64 0, .int .i64 0, .bool false] 77)) w3.heap.size 0 C.toList).cell? ⟨w3.heap.size, 15, none⟩ = some (.int .i64 g5) := (cell_of s1 15).trans HCX15.out
    have x16 : (World.setCells (w3.alloc (.cells #[.int .i64 0, .int .i64 0, .int .i64 0, .int .i64 0, .int .i64 0, .int .i64 0, .int .i64 0, .int .i64 0, .string ⟨#[]⟩, .bool false, .int .i64 0, .int .i64 0, .int .i64 0, .int .i64 0, .int .i64 0, .int .i64 0, .int .i64 0, .int .i64 0, .bool false] 77)) w3.heap.size 0 C.toList).cell? ⟨w3.heap.size, 16, none⟩ = some (.int .i64 g6) := (cell_of s1 16).trans HCX16.out
    have x17 : (World.setCells (w3.alloc (.cells #[.int .i64 0, .int .i64 0, .int .i64 0, .int .i64 0, .int .i64 0, .int .i64 0, .int .i64 0, .int .i64 0, .string ⟨#[]⟩, .bool false, .int .i64 0, .int .i64 0, .int .i64 0, .int .i64 0, .int .i64 0, .int .i64 0, .int .i64 0, .int .i64 0, .bool false] 77)) w3.heap.size 0 C.toList).cell? ⟨w3.heap.size, 17, none⟩ = some (.int .i64 g7) := (cell_of s1 17).trans HCX17.out
    have x18 : (World.setCells (w3.alloc (.cells #[.int .i64 0, .int .i64 0, .int .i64 0, .int .i64 0, .int .i64 0, .int .i64 0, .int .i64 0, .int .i64 0, .string ⟨#[]⟩, .bool false, .int .i64 0, .int .i64 0, .int .i64 0, .int .i64 0, .int .i64 0, .int .i64 0, .int .i64 0, .int .i64 0, .bool false] 77)) w3.heap.size 0 C.toList).cell? ⟨w3.heap.size, 18, none⟩ = some (.bool true) := (cell_of s1 18).trans HCX18.out
    have huB := (s2.block _ hlt1).trans q1
    have huL : w.heap.size + 1 < (World.setCells (w3.alloc (.cells #[.int .i64 0, .int .i64 0, .int .i64 0, .int .i64 0, .int .i64 0, .int .i64 0, .int .i64 0, .int .i64 0, .string ⟨#[]⟩, .bool false, .int .i64 0, .int .i64 0, .int .i64 0, .int .i64 0, .int .i64 0, .int .i64 0, .int .i64 0, .int .i64 0, .bool false] 77)) w3.heap.size 0 C.toList).heap.size := by have := hlt1; omega
    have u0 : (World.setCells (w3.alloc (.cells #[.int .i64 0, .int .i64 0, .int .i64 0, .int .i64 0, .int .i64 0, .int .i64 0, .int .i64 0, .int .i64 0, .string ⟨#[]⟩, .bool false, .int .i64 0, .int .i64 0, .int .i64 0, .int .i64 0, .int .i64 0, .int .i64 0, .int .i64 0, .int .i64 0, .bool false] 77)) w3.heap.size 0 C.toList).cell? ⟨w.heap.size + 1, 0, none⟩ = some (.int .i64 want) := cell_of huB 0
    have u2 : (World.setCells (w3.alloc (.cells #[.int .i64 0, .int .i64 0, .int .i64 0, .int .i64 0, .int .i64 0, .int .i64 0, .int .i64 0, .int .i64 0, .string ⟨#[]⟩, .bool false, .int .i64 0, .int .i64 0, .int .i64 0, .int .i64 0, .int .i64 0, .int .i64 0, .int .i64 0, .int .i64 0, .bool false] 77)) w3.heap.size 0 C.toList).cell? ⟨w.heap.size + 1, 2, none⟩ = some (.bool false) := cell_of huB 2
    have u3 : (World.setCells (w3.alloc (.cells #[.int .i64 0, .int .i64 0, .int .i64 0, .int .i64 0, .int .i64 0, .int .i64 0, .int .i64 0, .int .i64 0, .string ⟨#[]⟩, .bool false, .int .i64 0, .int .i64 0, .int .i64 0, .int .i64 0, .int .i64 0, .int .i64 0, .int .i64 0, .int .i64 0, .bool false] 77)) w3.heap.size 0 C.toList).cell? ⟨w.heap.size + 1, 3, none⟩ = some (.bool empty) := cell_of huB 3
    have haB := (s2.block _ hlt2).trans q2
    have haL : w.heap.size + 1 + 1 < (World.setCells (w3.alloc (.cells #[.int .i64 0, .int .i64 0, .int .i64 0, .int .i64 0, .int .i64 0, .int .i64 0, .int .i64 0, .int .i64 0, .string ⟨#[]⟩, .bool false, .int .i64 0, .int .i64 0, .int .i64 0, .int .i64 0, .int .i64 0, .int .i64 0, .int .i64 0, .int .i64 0, .bool false] 77)) w3.heap.size 0 C.toList).heap.size := by have := hlt2; omega
    have a0 : (World.setCells (w3.alloc (.cells #[.int .i64 0, .int .i64 0, .int .i64 0, .int .i64 0, .int .i64 0, .int .i64 0, .int .i64 0, .int .i64 0, .string ⟨#[]⟩, .bool false, .int .i64 0, .int .i64 0, .int .i64 0, .int .i64 0, .int .i64 0, .int .i64 0, .int .i64 0, .int .i64 0, .bool false] 77)) w3.heap.size 0 C.toList).cell? ⟨w.heap.size + 1 + 1, 0, none⟩ = some (.pointer (some ⟨t, 0, none⟩)) := cell_of haB 0
    have a1 : (World.setCells (w3.alloc (.cells #[.int .i64 0, .int .i64 0, .int .i64 0, .int .i64 0, .int .i64 0, .int .i64 0, .int .i64 0, .int .i64 0, .string ⟨#[]⟩, .bool false, .int .i64 0, .int .i64 0, .int .i64 0, .int .i64 0, .int .i64 0, .int .i64 0, .int .i64 0, .int .i64 0, .bool false] 77)) w3.heap.size 0 C.toList).cell? ⟨w.heap.size + 1 + 1, 1, none⟩ = some (.int .i64 cwd) := cell_of haB 1
    have a2 : (World.setCells (w3.alloc (.cells #[.int .i64 0, .int .i64 0, .int .i64 0, .int .i64 0, .int .i64 0, .int .i64 0, .int .i64 0, .int .i64 0, .string ⟨#[]⟩, .bool false, .int .i64 0, .int .i64 0, .int .i64 0, .int .i64 0, .int .i64 0, .int .i64 0, .int .i64 0, .int .i64 0, .bool false] 77)) w3.heap.size 0 C.toList).cell? ⟨w.heap.size + 1 + 1, 2, none⟩ = some (.int .i64 c.real) := cell_of haB 2
    have a3 : (World.setCells (w3.alloc (.cells #[.int .i64 0, .int .i64 0, .int .i64 0, .int .i64 0, .int .i64 0, .int .i64 0, .int .i64 0, .int .i64 0, .string ⟨#[]⟩, .bool false, .int .i64 0, .int .i64 0, .int .i64 0, .int .i64 0, .int .i64 0, .int .i64 0, .int .i64 0, .int .i64 0, .bool false] 77)) w3.heap.size 0 C.toList).cell? ⟨w.heap.size + 1 + 1, 3, none⟩ = some (.int .i64 c.eff) := cell_of haB 3
    have a4 : (World.setCells (w3.alloc (.cells #[.int .i64 0, .int .i64 0, .int .i64 0, .int .i64 0, .int .i64 0, .int .i64 0, .int .i64 0, .int .i64 0, .string ⟨#[]⟩, .bool false, .int .i64 0, .int .i64 0, .int .i64 0, .int .i64 0, .int .i64 0, .int .i64 0, .int .i64 0, .int .i64 0, .bool false] 77)) w3.heap.size 0 C.toList).cell? ⟨w.heap.size + 1 + 1, 4, none⟩ = some (.int .i64 c.saved) := cell_of haB 4
    have a5 : (World.setCells (w3.alloc (.cells #[.int .i64 0, .int .i64 0, .int .i64 0, .int .i64 0, .int .i64 0, .int .i64 0, .int .i64 0, .int .i64 0, .string ⟨#[]⟩, .bool false, .int .i64 0, .int .i64 0, .int .i64 0, .int .i64 0, .int .i64 0, .int .i64 0, .int .i64 0, .int .i64 0, .bool false] 77)) w3.heap.size 0 C.toList).cell? ⟨w.heap.size + 1 + 1, 5, none⟩ = some (.int .i64 c.group) := cell_of haB 5
    have a6 : (World.setCells (w3.alloc (.cells #[.int .i64 0, .int .i64 0, .int .i64 0, .int .i64 0, .int .i64 0, .int .i64 0, .int .i64 0, .int .i64 0, .string ⟨#[]⟩, .bool false, .int .i64 0, .int .i64 0, .int .i64 0, .int .i64 0, .int .i64 0, .int .i64 0, .int .i64 0, .int .i64 0, .bool false] 77)) w3.heap.size 0 C.toList).cell? ⟨w.heap.size + 1 + 1, 6, none⟩ = some (.int .i64 c.eg) := cell_of haB 6
    have hpB := (s2.block _ hlt).trans q3
    have hpL : w.heap.size + 1 + 1 + 1 < (World.setCells (w3.alloc (.cells #[.int .i64 0, .int .i64 0, .int .i64 0, .int .i64 0, .int .i64 0, .int .i64 0, .int .i64 0, .int .i64 0, .string ⟨#[]⟩, .bool false, .int .i64 0, .int .i64 0, .int .i64 0, .int .i64 0, .int .i64 0, .int .i64 0, .int .i64 0, .int .i64 0, .bool false] 77)) w3.heap.size 0 C.toList).heap.size := by have := hlt; omega
    have p0 : (World.setCells (w3.alloc (.cells #[.int .i64 0, .int .i64 0, .int .i64 0, .int .i64 0, .int .i64 0, .int .i64 0, .int .i64 0, .int .i64 0, .string ⟨#[]⟩, .bool false, .int .i64 0, .int .i64 0, .int .i64 0, .int .i64 0, .int .i64 0, .int .i64 0, .int .i64 0, .int .i64 0, .bool false] 77)) w3.heap.size 0 C.toList).cell? ⟨w.heap.size + 1 + 1 + 1, 0, none⟩ = some (.int .i64 0) := cell_of hpB 0
    have p1 : (World.setCells (w3.alloc (.cells #[.int .i64 0, .int .i64 0, .int .i64 0, .int .i64 0, .int .i64 0, .int .i64 0, .int .i64 0, .int .i64 0, .string ⟨#[]⟩, .bool false, .int .i64 0, .int .i64 0, .int .i64 0, .int .i64 0, .int .i64 0, .int .i64 0, .int .i64 0, .int .i64 0, .bool false] 77)) w3.heap.size 0 C.toList).cell? ⟨w.heap.size + 1 + 1 + 1, 1, none⟩ = some (.int .i64 0) := cell_of hpB 1
    have p2 : (World.setCells (w3.alloc (.cells #[.int .i64 0, .int .i64 0, .int .i64 0, .int .i64 0, .int .i64 0, .int .i64 0, .int .i64 0, .int .i64 0, .string ⟨#[]⟩, .bool false, .int .i64 0, .int .i64 0, .int .i64 0, .int .i64 0, .int .i64 0, .int .i64 0, .int .i64 0, .int .i64 0, .bool false] 77)) w3.heap.size 0 C.toList).cell? ⟨w.heap.size + 1 + 1 + 1, 2, none⟩ = some (.int .i64 0) := cell_of hpB 2
    have p3 : (World.setCells (w3.alloc (.cells #[.int .i64 0, .int .i64 0, .int .i64 0, .int .i64 0, .int .i64 0, .int .i64 0, .int .i64 0, .int .i64 0, .string ⟨#[]⟩, .bool false, .int .i64 0, .int .i64 0, .int .i64 0, .int .i64 0, .int .i64 0, .int .i64 0, .int .i64 0, .int .i64 0, .bool false] 77)) w3.heap.size 0 C.toList).cell? ⟨w.heap.size + 1 + 1 + 1, 3, none⟩ = some (.int .i64 0) := cell_of hpB 3
    have p4 : (World.setCells (w3.alloc (.cells #[.int .i64 0, .int .i64 0, .int .i64 0, .int .i64 0, .int .i64 0, .int .i64 0, .int .i64 0, .int .i64 0, .string ⟨#[]⟩, .bool false, .int .i64 0, .int .i64 0, .int .i64 0, .int .i64 0, .int .i64 0, .int .i64 0, .int .i64 0, .int .i64 0, .bool false] 77)) w3.heap.size 0 C.toList).cell? ⟨w.heap.size + 1 + 1 + 1, 4, none⟩ = some (.int .i64 0) := cell_of hpB 4
    have p5 : (World.setCells (w3.alloc (.cells #[.int .i64 0, .int .i64 0, .int .i64 0, .int .i64 0, .int .i64 0, .int .i64 0, .int .i64 0, .int .i64 0, .string ⟨#[]⟩, .bool false, .int .i64 0, .int .i64 0, .int .i64 0, .int .i64 0, .int .i64 0, .int .i64 0, .int .i64 0, .int .i64 0, .bool false] 77)) w3.heap.size 0 C.toList).cell? ⟨w.heap.size + 1 + 1 + 1, 5, none⟩ = some (.int .i64 0) := cell_of hpB 5
    have p6 : (World.setCells (w3.alloc (.cells #[.int .i64 0, .int .i64 0, .int .i64 0, .int .i64 0, .int .i64 0, .int .i64 0, .int .i64 0, .int .i64 0, .string ⟨#[]⟩, .bool false, .int .i64 0, .int .i64 0, .int .i64 0, .int .i64 0, .int .i64 0, .int .i64 0, .int .i64 0, .int .i64 0, .bool false] 77)) w3.heap.size 0 C.toList).cell? ⟨w.heap.size + 1 + 1 + 1, 6, none⟩ = some (.int .i64 0) := cell_of hpB 6
    have p7 : (World.setCells (w3.alloc (.cells #[.int .i64 0, .int .i64 0, .int .i64 0, .int .i64 0, .int .i64 0, .int .i64 0, .int .i64 0, .int .i64 0, .string ⟨#[]⟩, .bool false, .int .i64 0, .int .i64 0, .int .i64 0, .int .i64 0, .int .i64 0, .int .i64 0, .int .i64 0, .int .i64 0, .bool false] 77)) w3.heap.size 0 C.toList).cell? ⟨w.heap.size + 1 + 1 + 1, 7, none⟩ = some (.int .i64 0) := cell_of hpB 7
    have s5 : ∀ i, (World.setCells (w3.alloc (.cells #[.int .i64 0, .int .i64 0, .int .i64 0, .int .i64 0, .int .i64 0, .int .i64 0, .int .i64 0, .int .i64 0, .string ⟨#[]⟩, .bool false, .int .i64 0, .int .i64 0, .int .i64 0, .int .i64 0, .int .i64 0, .int .i64 0, .int .i64 0, .int .i64 0, .bool false] 77)) w3.heap.size 0 C.toList).frozen? ⟨w.heap.size + 1 + 1 + 1, i, none⟩ = false := fun i => frozen_of hpB i
    have z0 : (World.setCells (w3.alloc (.cells #[.int .i64 0, .int .i64 0, .int .i64 0, .int .i64 0, .int .i64 0, .int .i64 0, .int .i64 0, .int .i64 0, .string ⟨#[]⟩, .bool false, .int .i64 0, .int .i64 0, .int .i64 0, .int .i64 0, .int .i64 0, .int .i64 0, .int .i64 0, .int .i64 0, .bool false] 77)) w3.heap.size 0 C.toList).frozen? ⟨w.heap.size + 1 + 1 + 1, 0, none⟩ = false := s5 0
    have z1 : (World.setCells (w3.alloc (.cells #[.int .i64 0, .int .i64 0, .int .i64 0, .int .i64 0, .int .i64 0, .int .i64 0, .int .i64 0, .int .i64 0, .string ⟨#[]⟩, .bool false, .int .i64 0, .int .i64 0, .int .i64 0, .int .i64 0, .int .i64 0, .int .i64 0, .int .i64 0, .int .i64 0, .bool false] 77)) w3.heap.size 0 C.toList).frozen? ⟨w.heap.size + 1 + 1 + 1, 1, none⟩ = false := s5 1
    have z2 : (World.setCells (w3.alloc (.cells #[.int .i64 0, .int .i64 0, .int .i64 0, .int .i64 0, .int .i64 0, .int .i64 0, .int .i64 0, .int .i64 0, .string ⟨#[]⟩, .bool false, .int .i64 0, .int .i64 0, .int .i64 0, .int .i64 0, .int .i64 0, .int .i64 0, .int .i64 0, .int .i64 0, .bool false] 77)) w3.heap.size 0 C.toList).frozen? ⟨w.heap.size + 1 + 1 + 1, 2, none⟩ = false := s5 2
    have z3 : (World.setCells (w3.alloc (.cells #[.int .i64 0, .int .i64 0, .int .i64 0, .int .i64 0, .int .i64 0, .int .i64 0, .int .i64 0, .int .i64 0, .string ⟨#[]⟩, .bool false, .int .i64 0, .int .i64 0, .int .i64 0, .int .i64 0, .int .i64 0, .int .i64 0, .int .i64 0, .int .i64 0, .bool false] 77)) w3.heap.size 0 C.toList).frozen? ⟨w.heap.size + 1 + 1 + 1, 3, none⟩ = false := s5 3
    have z4 : (World.setCells (w3.alloc (.cells #[.int .i64 0, .int .i64 0, .int .i64 0, .int .i64 0, .int .i64 0, .int .i64 0, .int .i64 0, .int .i64 0, .string ⟨#[]⟩, .bool false, .int .i64 0, .int .i64 0, .int .i64 0, .int .i64 0, .int .i64 0, .int .i64 0, .int .i64 0, .int .i64 0, .bool false] 77)) w3.heap.size 0 C.toList).frozen? ⟨w.heap.size + 1 + 1 + 1, 4, none⟩ = false := s5 4
    have z5 : (World.setCells (w3.alloc (.cells #[.int .i64 0, .int .i64 0, .int .i64 0, .int .i64 0, .int .i64 0, .int .i64 0, .int .i64 0, .int .i64 0, .string ⟨#[]⟩, .bool false, .int .i64 0, .int .i64 0, .int .i64 0, .int .i64 0, .int .i64 0, .int .i64 0, .int .i64 0, .int .i64 0, .bool false] 77)) w3.heap.size 0 C.toList).frozen? ⟨w.heap.size + 1 + 1 + 1, 5, none⟩ = false := s5 5
    have z6 : (World.setCells (w3.alloc (.cells #[.int .i64 0, .int .i64 0, .int .i64 0, .int .i64 0, .int .i64 0, .int .i64 0, .int .i64 0, .int .i64 0, .string ⟨#[]⟩, .bool false, .int .i64 0, .int .i64 0, .int .i64 0, .int .i64 0, .int .i64 0, .int .i64 0, .int .i64 0, .int .i64 0, .bool false] 77)) w3.heap.size 0 C.toList).frozen? ⟨w.heap.size + 1 + 1 + 1, 6, none⟩ = false := s5 6
    have z7 : (World.setCells (w3.alloc (.cells #[.int .i64 0, .int .i64 0, .int .i64 0, .int .i64 0, .int .i64 0, .int .i64 0, .int .i64 0, .int .i64 0, .string ⟨#[]⟩, .bool false, .int .i64 0, .int .i64 0, .int .i64 0, .int .i64 0, .int .i64 0, .int .i64 0, .int .i64 0, .int .i64 0, .bool false] 77)) w3.heap.size 0 C.toList).frozen? ⟨w.heap.size + 1 + 1 + 1, 7, none⟩ = false := s5 7
    clear s5
    clear q1 q2 q3
    go_upto_region 22 with (refine wpList_store_mid rfl 77 _ _ rfl w3.heap.size 0 C rfl rfl hT hI h1C ?_; generalize World.setCells (w3.alloc (.cells #[.int .i64 0, .int .i64 0, .int .i64 0, .int .i64 0, .int .i64 0, .int .i64 0, .int .i64 0, .int .i64 0, .string ⟨#[]⟩, .bool false, .int .i64 0, .int .i64 0, .int .i64 0, .int .i64 0, .int .i64 0, .int .i64 0, .int .i64 0, .int .i64 0, .bool false] 77)) w3.heap.size 0 C.toList = W5 at s1 s2 s3 x9 x10 x11 x12 x13 x14 x15 x16 x17 x18 huB huL u0 u2 u3 haB haL a0 a1 a2 a3 a4 a5 a6 hpB hpL p0 p1 p2 p3 p4 p5 p6 p7 z0 z1 z2 z3 z4 z5 z6 z7 ⊢)
    have HB3 : Hid (Below w.heap.size w W5) := Lib.hid (HB.out.trans (s2.mono HB.out.size))
    have hb4 := below_set8 (R := w.heap.size + 1 + 1 + 1) (v0 := .int .i64 g0) (v1 := .int .i64 1) (v2 := .int .i64 g2) (v3 := .int .i64 g3) (v4 := .int .i64 g4) (v5 := .int .i64 g5) (v6 := .int .i64 g6) (v7 := .int .i64 g7) HB3.out (by omega)
    have t3 := heap_set8 (v0 := .int .i64 g0) (v1 := .int .i64 1) (v2 := .int .i64 g2) (v3 := .int .i64 g3) (v4 := .int .i64 g4) (v5 := .int .i64 g5) (v6 := .int .i64 g6) (v7 := .int .i64 g7) hpB
    have t1 := (heap_set8_other (R := w.heap.size + 1 + 1 + 1) (v0 := .int .i64 g0) (v1 := .int .i64 1) (v2 := .int .i64 g2) (v3 := .int .i64 g3) (v4 := .int .i64 g4) (v5 := .int .i64 g5) (v6 := .int .i64 g6) (v7 := .int .i64 g7) (b := w.heap.size + 1) (by omega)).trans huB
    have t2 := (heap_set8_other (R := w.heap.size + 1 + 1 + 1) (v0 := .int .i64 g0) (v1 := .int .i64 1) (v2 := .int .i64 g2) (v3 := .int .i64 g3) (v4 := .int .i64 g4) (v5 := .int .i64 g5) (v6 := .int .i64 g6) (v7 := .int .i64 g7) (b := w.heap.size + 1 + 1) (by omega)).trans haB
    clear x9 x10 x11 x12 x13 x14 x15 x16 x17 x18 hT hI h1C s1 s2 s3 huB haB hpB haL hpL huL p0 z0 p1 z1 p2 z2 p3 z3 p4 z4 p5 z5 p6 z6 p7 z7 a0 a1 a2 a3 a4 a5 a6 u0 u2 u3
    generalize ((((((((W5.setCell ⟨w.heap.size + 1 + 1 + 1, 0, none⟩ (.int .i64 g0)).setCell ⟨w.heap.size + 1 + 1 + 1, 1, none⟩ (.int .i64 1)).setCell ⟨w.heap.size + 1 + 1 + 1, 2, none⟩ (.int .i64 g2)).setCell ⟨w.heap.size + 1 + 1 + 1, 3, none⟩ (.int .i64 g3)).setCell ⟨w.heap.size + 1 + 1 + 1, 4, none⟩ (.int .i64 g4)).setCell ⟨w.heap.size + 1 + 1 + 1, 5, none⟩ (.int .i64 g5)).setCell ⟨w.heap.size + 1 + 1 + 1, 6, none⟩ (.int .i64 g6)).setCell ⟨w.heap.size + 1 + 1 + 1, 7, none⟩ (.int .i64 g7)) = W6 at hb4 t3 t1 t2 ⊢
    have HB4 := Lib.hid hb4
    have y0 : W6.cell? ⟨w.heap.size + 1 + 1 + 1, 0, none⟩ = some (.int .i64 g0) := cell_of t3 0
    have y1 : W6.cell? ⟨w.heap.size + 1 + 1 + 1, 1, none⟩ = some (.int .i64 1) := cell_of t3 1
    have y2 : W6.cell? ⟨w.heap.size + 1 + 1 + 1, 2, none⟩ = some (.int .i64 g2) := cell_of t3 2
    have y3 : W6.cell? ⟨w.heap.size + 1 + 1 + 1, 3, none⟩ = some (.int .i64 g3) := cell_of t3 3
    have y4 : W6.cell? ⟨w.heap.size + 1 + 1 + 1, 4, none⟩ = some (.int .i64 g4) := cell_of t3 4
    have y5 : W6.cell? ⟨w.heap.size + 1 + 1 + 1, 5, none⟩ = some (.int .i64 g5) := cell_of t3 5
    have y6 : W6.cell? ⟨w.heap.size + 1 + 1 + 1, 6, none⟩ = some (.int .i64 g6) := cell_of t3 6
    have y7 : W6.cell? ⟨w.heap.size + 1 + 1 + 1, 7, none⟩ = some (.int .i64 g7) := cell_of t3 7
    have u0 : W6.cell? ⟨w.heap.size + 1, 0, none⟩ = some (.int .i64 want) := cell_of t1 0
    have u3 : W6.cell? ⟨w.heap.size + 1, 3, none⟩ = some (.bool empty) := cell_of t1 3
    have a0 : W6.cell? ⟨w.heap.size + 1 + 1, 0, none⟩ = some (.pointer (some ⟨t, 0, none⟩)) := cell_of t2 0
    have a1 : W6.cell? ⟨w.heap.size + 1 + 1, 1, none⟩ = some (.int .i64 cwd) := cell_of t2 1
    have a2 : W6.cell? ⟨w.heap.size + 1 + 1, 2, none⟩ = some (.int .i64 c.real) := cell_of t2 2
    have a3 : W6.cell? ⟨w.heap.size + 1 + 1, 3, none⟩ = some (.int .i64 c.eff) := cell_of t2 3
    have a4 : W6.cell? ⟨w.heap.size + 1 + 1, 4, none⟩ = some (.int .i64 c.saved) := cell_of t2 4
    have a5 : W6.cell? ⟨w.heap.size + 1 + 1, 5, none⟩ = some (.int .i64 c.group) := cell_of t2 5
    have a6 : W6.cell? ⟨w.heap.size + 1 + 1, 6, none⟩ = some (.int .i64 c.eg) := cell_of t2 6
    have T3 := Lib.hid t3
    have T1 := Lib.hid t1
    clear hb4 t3 t1 t2
    
    go_wp2
    go_ret2
    refine ⟨0, 7, rfl, Stp.keepB H.out HB4.out (HL.out _ _ _ ⟨q, HQ.out, ?_⟩)⟩
    rw [if_pos ⟨HW.out, HK.out⟩]
    exact ⟨rfl, rfl, rfl⟩
end Go.Proofs.Ytafonmnfeibaiaa
namespace Go.Proofs.Ytafonmnfeibaiaa
open Go.RowKit

/-! ### walk: Open, whole -/
theorem walkOpen_any {w : World} {t : Nat} {S : Tab} {T : IT.Tr} (h : Tre w t S T) (hh : HB T 999999) (cwd : Int) (c : Cr) (s : ByteArray) (o : Ho) :
    Calls Try.prog 15 #[.pointer (some ⟨t, 0, none⟩), .int .i64 cwd, cred c, .string s, howV o] w fun e w' => ∃ (i : Nat) (r : Int), e = .returned (.tuple #[.int .i64 i, .int .i64 r]) ∧ Stp w t S (fun T' => isOpen T c cwd (bs s) o i r T') w' := by
  cases ho : openB o with
  | false => exact wopen_bad h cwd c s o ho
  | true =>
    cases hmk : o.make with
    | false =>
      obtain ⟨⟨k0, r0⟩, hg⟩ : ∃ g, findT T c cwd (bs s) = g := ⟨_, rfl⟩
      by_cases hz : r0 = 0
      · subst hz
        exact wopen_find h hh cwd c s o ho hmk hg
      · exact wopen_nofind h cwd c s o ho hmk hg hz
    | true =>
      cases he : entryT T c cwd (bs s) with
      | error r0 => exact wopen_err h hh cwd c s o ho hmk he
      | ok x =>
        obtain ⟨m, hm, hto, _⟩ := entry_ok he
        obtain ⟨k, nm, must, to⟩ := x
        dsimp only at hm hto
        cases to with
        | none =>
          cases must with
          | true => exact wopen_must7 h hh cwd c s o ho hmk he hm
          | false => exact wopen_new h hh cwd c s o ho hmk he hm
        | some j =>
          obtain ⟨q, hq⟩ := look_there h.snd hto.symm
          cases hal : o.alone with
          | true => exact wopen_is h hh cwd c s o ho hmk he hm hq hal
          | false =>
            cases must with
            | false => exact wopen_old h hh cwd c s o ho hmk he hm hq hal
            | true =>
              by_cases hk : q.kind = 1
              · exact wopen_dir h hh cwd c s o ho hmk he hm hq hal hk
              · exact wopen_must6 h hh cwd c s o ho hmk he hm hq hal hk
theorem isMakes.sound' {may : Bool} {T T' : IT.Tr} {c : Cr} {k i : Nat} {nm : IT.Bytes} {kind mode r : Int} (h : isMakes may T c k nm kind mode i r T') (hs : IT.Sound okN T) : IT.Sound okN T' := h.sound hs
theorem isOpen.sound {T T' : IT.Tr} {c : Cr} {cwd : Int} {s : IT.Bytes} {o : Ho} {i : Nat} {r : Int} (h : isOpen T c cwd s o i r T') (hs : IT.Sound okN T) : IT.Sound okN T' := by
  unfold isOpen at h
  split at h
  · exact h.2.2 ▸ hs
  · split at h
    · split at h
      · exact h.2.2 ▸ hs
      · split at h
        · split at h
          · exact h.2.2 ▸ hs
          · obtain ⟨m, _, h⟩ := h
            exact h.sound hs
        · split at h
          · exact h.2.2 ▸ hs
          · split at h
            · exact h.2.2 ▸ hs
            · exact h.sound hs
    · split at h
      · exact h.2.2 ▸ hs
      · exact h.sound hs
theorem HB.wopen {T T' : IT.Tr} {c : Cr} {cwd : Int} {s : IT.Bytes} {o : Ho} {i B : Nat} {r : Int} (hb : HB T B) (hB : 1 ≤ B) (h : isOpen T c cwd s o i r T') : HB T' (B + 1) := by
  have hm := hb.mono (Nat.le_succ B)
  unfold isOpen at h
  split at h
  · exact h.2.2 ▸ hm
  · split at h
    · split at h
      · exact h.2.2 ▸ hm
      · split at h
        · split at h
          · exact h.2.2 ▸ hm
          · obtain ⟨m, _, h⟩ := h
            exact hm.makes (by omega) h
        · split at h
          · exact h.2.2 ▸ hm
          · split at h
            · exact h.2.2 ▸ hm
            · exact hb.opened h
    · split at h
      · exact h.2.2 ▸ hm
      · exact hb.opened h
end Go.Proofs.Ytafonmnfeibaiaa
namespace Go.Proofs.Ytafonmnfeibaiaa
open Go.RowKit

/-! ### walk, plainly: what is made and entered where it may be -/
/-- The first number that is free. -/
def FreeAt (T : IT.Tr) (j : Nat) : Prop := 1 ≤ j ∧ j ≤ 200 ∧ T j = none ∧ ∀ k, 1 ≤ k → k < j → T k ≠ none
theorem FreeAt.one {T : IT.Tr} {i j : Nat} (h : FreeAt T i) (g : FreeAt T j) : i = j := by
  by_cases e : i < j
  · exact absurd h.2.2.1 (g.2.2.2 i h.1 e)
  · by_cases e2 : j < i
    · exact absurd g.2.2.1 (h.2.2.2 j g.1 e2)
    · omega
def newN (c : Cr) (kind mode : Int) (j : Nat) : IT.Nd := ⟨kind, mode, c.eff, c.eg, 0, 1, [], [], if kind = 1 then j else 0⟩
theorem bel_new {T : IT.Tr} (hs : IT.Sound0 okN T) {j : Nat} (hj : T j = none) {m : IT.Nd} {k : Nat} {n : IT.Nd} (hk : T k = some n) : ¬ IT.Bel (IT.upd T j (some m)) j k := by
  have gen : ∀ k, IT.Bel (IT.upd T j (some m)) j k → ∀ n, T k = some n → False := fun k h => by
    induction h with
    | self => intro n hn; rw [hj] at hn; cases hn
    | @step k q hq hqk hne hb ih =>
      intro n hn
      have e : k ≠ j := fun e => by rw [e, hj] at hn; cases hn
      rw [IT.upd_other _ _ e, hn] at hq
      obtain rfl := Option.some.inj hq
      obtain ⟨rk, hrk⟩ := hs.chain
      obtain ⟨_, m', hm', _⟩ := hrk k n hn hqk hne
      exact ih m' hm'
  exact fun h => gen k h n hk
theorem makes_new {T T' : IT.Tr} (hs : IT.Sound okN T) {c : Cr} {d : Nat} {n : IT.Nd} (hd : T d = some n) (hdk : n.kind = 1) {nm : IT.Bytes} (hok : okN nm = true) (hf : IT.findN nm n.names = none) (hl : n.names.length < 40) {kind mode : Int} (hk : kind = 0 ∨ kind = 1) (hr : rt mode c.eff c.eg) {j : Nat} (hj : FreeAt T j) {i : Nat} {r : Int} (h : isMakes true T c d nm kind mode i r T') :
    i = j ∧ r = 0 ∧ T' = IT.entT (IT.upd T j (some (newN c kind mode j))) d j nm n (newN c kind mode j) := by
  unfold isMakes at h
  rw [if_neg (by decide)] at h
  obtain ⟨i1, r1, T1, h1, h⟩ := h
  unfold IT.isMake at h1
  rw [if_neg (by rintro (a | a | a); omega; omega; exact a hr), if_neg (by omega), if_neg (fun hh => hh j hj.1 hj.2.1 hj.2.2.1)] at h1
  obtain ⟨g1, g2, g3, g4, g5, g6⟩ := h1
  obtain rfl := FreeAt.one ⟨g2, g3, g4, g5⟩ hj
  have e6 : T1 = IT.upd T i1 (some (newN c kind mode i1)) := by
    rw [g6]
    unfold newN
    congr 3
    split <;> rfl
  subst g1
  rw [if_neg (by decide)] at h
  obtain ⟨r2, T2, h2, h⟩ := h
  have hne : d ≠ i1 := fun e => by rw [e, g4] at hd; cases hd
  subst e6
  unfold IT.isEnter at h2
  rw [IT.upd_other _ _ hne, hd, IT.upd_same] at h2
  dsimp only at h2
  have hz : IT.lnk (IT.upd T i1 (some (newN c kind mode i1))) i1 = 0 := by
    rw [IT.lnk_new g4 g3 rfl]
    exact hs.1.free g4
  rw [if_neg (by rw [hdk]; decide), if_neg (by rw [hok]; decide), if_neg (by rw [hf]; decide), if_neg, if_neg (by omega), if_neg (fun hh => bel_new hs.1 g4 hd hh.2)] at h2
  · obtain ⟨rfl, rfl⟩ := h2
    rw [if_neg (by decide)] at h
    exact h
  · rintro (a | a | a)
    · subst a
      obtain ⟨q, hq, _⟩ := hs.1.root
      rw [g4] at hq; cases hq
    · have := a.2
      rw [hz] at this; omega
    · rw [hz] at a; omega
theorem mkdir_new {T T' : IT.Tr} (hs : IT.Sound okN T) {c : Cr} {cwd : Int} {s : IT.Bytes} {d : Nat} {n : IT.Nd} {nm : IT.Bytes} {must : Bool} (he : entryT T c cwd s = .ok ⟨d, nm, must, none⟩) (hd : T d = some n) (hdk : n.kind = 1) (hok : okN nm = true) (hf : IT.findN nm n.names = none) (hl : n.names.length < 40) {mode : Int} (hmr : Md.rightB mode = true) (hmy : mayN n c 2 = true) (hr : rt mode c.eff c.eg) {j : Nat} (hj : FreeAt T j) {r : Int} (h : isMkdir T c cwd s mode r T') :
    r = 0 ∧ T' = IT.entT (IT.upd T j (some { newN c 1 mode j with holds := 0 })) d j nm n { newN c 1 mode j with holds := 0 } := by
  unfold isMkdir at h
  rw [if_neg (by rw [hmr]; decide), he] at h
  dsimp only at h
  rw [if_neg (by decide)] at h
  obtain ⟨m, i1, r1, T1, hm, hmk, h⟩ := h
  rw [hd] at hm
  obtain rfl := Option.some.inj hm
  rw [hmy] at hmk
  obtain ⟨rfl, rfl, rfl⟩ := makes_new hs hd hdk hok hf hl (.inr rfl) hr hj hmk
  rw [if_pos rfl] at h
  obtain ⟨rfl, b, h⟩ := h
  refine ⟨rfl, ?_⟩
  have hne : i1 ≠ d := fun e => by rw [← e, hj.2.2.1] at hd; cases hd
  have hsn : IT.Sound okN (IT.entT (IT.upd T i1 (some (newN c 1 mode i1))) d i1 nm n (newN c 1 mode i1)) := isMakes.sound hmk hs
  have hi : IT.entT (IT.upd T i1 (some (newN c 1 mode i1))) d i1 nm n (newN c 1 mode i1) i1 = some (IT.under d (newN c 1 mode i1)) := IT.entT_names hne
  unfold IT.isDrop at h
  rw [hi] at h
  dsimp only at h
  rw [if_neg (by rw [IT.under_holds]; exact Nat.one_ne_zero)] at h
  have hnf := h.2
  have e1 : IT.upd (IT.entT (IT.upd T i1 (some (newN c 1 mode i1))) d i1 nm n (newN c 1 mode i1)) i1 (some { IT.under d (newN c 1 mode i1) with holds := (IT.under d (newN c 1 mode i1)).holds - 1 }) = IT.entT (IT.upd T i1 (some { newN c 1 mode i1 with holds := 0 })) d i1 nm n { newN c 1 mode i1 with holds := 0 } := by
    funext k
    unfold IT.entT IT.upd
    by_cases a : k = i1
    · subst a
      rw [if_pos rfl, if_neg hne, if_pos rfl]
      unfold IT.under newN
      rfl
    · by_cases a2 : k = d
      · rw [if_neg a, if_pos a2, if_pos a2]
      · rw [if_neg a, if_neg a2, if_neg a, if_neg a, if_neg a2, if_neg a, if_neg a]
  rw [e1] at hnf
  refine (IT.nf_stay hnf fun k hc => ?_)
  rw [← e1] at hc
  rcases IT.same_can hi hj.2.1 (n' := { IT.under d (newN c 1 mode i1) with holds := (IT.under d (newN c 1 mode i1)).holds - 1 }) rfl hc with ⟨rfl, _⟩ | h0
  · have hlk := hc.2.2.2
    rw [IT.lnk_same hj.2.1 hi (n' := { IT.under d (newN c 1 mode k) with holds := (IT.under d (newN c 1 mode k)).holds - 1 }) rfl, IT.ent_lnk (by rw [IT.upd_other _ _ (Ne.symm hne)]; exact hd) (IT.upd_same _ _ _) hne (hs.1.rng d n hd).2 hj.2.1, if_pos rfl] at hlk
    omega
  · exact hsn.2 k h0
end Go.Proofs.Ytafonmnfeibaiaa
namespace Go.Proofs.Ytafonmnfeibaiaa
open Go.RowKit

/-! ### walk: each keeps the tree sound, and the bound of holds -/
theorem isMkdir.sound {T T' : IT.Tr} {c : Cr} {cwd : Int} {s : IT.Bytes} {mode r : Int} (h : isMkdir T c cwd s mode r T') (hs : IT.Sound okN T) : IT.Sound okN T' := by
  unfold isMkdir at h
  split at h
  · exact h.2 ▸ hs
  · split at h
    · exact h.2 ▸ hs
    · split at h
      · exact h.2 ▸ hs
      · obtain ⟨m, i1, r1, T1, _, h1, h⟩ := h
        split at h
        · obtain ⟨_, b, h⟩ := h
          exact h.sound (isMakes.sound h1 hs)
        · exact h.2 ▸ isMakes.sound h1 hs
theorem HB.mkdir {T T' : IT.Tr} {c : Cr} {cwd : Int} {s : IT.Bytes} {mode r : Int} {B : Nat} (hb : HB T B) (hB : 1 ≤ B) (h : isMkdir T c cwd s mode r T') : HB T' B := by
  unfold isMkdir at h
  split at h
  · exact h.2 ▸ hb
  · split at h
    · exact h.2 ▸ hb
    · split at h
      · exact h.2 ▸ hb
      · obtain ⟨m, i1, r1, T1, _, h1, h⟩ := h
        split at h
        · obtain ⟨_, b, h⟩ := h
          exact (hb.makes hB h1).drop h
        · exact h.2 ▸ hb.makes hB h1
theorem isChown.sound {T T' : IT.Tr} {c : Cr} {cwd : Int} {s : IT.Bytes} {o g r : Int} (h : isChown T c cwd s o g r T') (hs : IT.Sound okN T) : IT.Sound okN T' := by
  unfold isChown at h
  split at h
  · exact h.2 ▸ hs
  · obtain ⟨m, _, h⟩ := h
    split at h
    · exact h.2 ▸ hs
    · exact h.sound hs
theorem HB.chown {T T' : IT.Tr} {c : Cr} {cwd : Int} {s : IT.Bytes} {o g r : Int} {B : Nat} (hb : HB T B) (h : isChown T c cwd s o g r T') : HB T' B := by
  unfold isChown at h
  split at h
  · exact h.2 ▸ hb
  · obtain ⟨m, _, h⟩ := h
    split at h
    · exact h.2 ▸ hb
    · exact hb.set h
theorem isWRemove.sound {T T' : IT.Tr} {c : Cr} {cwd : Int} {s : IT.Bytes} {dir : Bool} {r : Int} (h : isWRemove T c cwd s dir r T') (hs : IT.Sound okN T) : IT.Sound okN T' := by
  unfold isWRemove at h
  split at h
  · exact h.2 ▸ hs
  · split at h
    · exact h.2 ▸ hs
    · obtain ⟨m, q, _, _, h⟩ := h
      split at h
      · exact h.2 ▸ hs
      · split at h
        · exact h.2 ▸ hs
        · split at h
          · exact h.2 ▸ hs
          · split at h
            · exact h.2 ▸ hs
            · exact h.sound hs
theorem HB.wremove {T T' : IT.Tr} {c : Cr} {cwd : Int} {s : IT.Bytes} {dir : Bool} {r : Int} {B : Nat} (hb : HB T B) (h : isWRemove T c cwd s dir r T') : HB T' B := by
  unfold isWRemove at h
  split at h
  · exact h.2 ▸ hb
  · split at h
    · exact h.2 ▸ hb
    · obtain ⟨m, q, _, _, h⟩ := h
      split at h
      · exact h.2 ▸ hb
      · split at h
        · exact h.2 ▸ hb
        · split at h
          · exact h.2 ▸ hb
          · split at h
            · exact h.2 ▸ hb
            · exact hb.remove h
theorem isLink.sound {T T' : IT.Tr} {c : Cr} {cwd : Int} {s ar : IT.Bytes} {r : Int} (h : isLink T c cwd s ar r T') (hs : IT.Sound okN T) : IT.Sound okN T' := by
  unfold isLink at h
  split at h
  · exact h.2 ▸ hs
  · obtain ⟨q, _, h⟩ := h
    split at h
    · exact h.2 ▸ hs
    · split at h
      · exact h.2 ▸ hs
      · split at h
        · exact h.2 ▸ hs
        · split at h
          · exact h.2 ▸ hs
          · obtain ⟨m, _, h⟩ := h
            split at h
            · exact h.2 ▸ hs
            · exact h.sound hs
theorem HB.link {T T' : IT.Tr} {c : Cr} {cwd : Int} {s ar : IT.Bytes} {r : Int} {B : Nat} (hb : HB T B) (h : isLink T c cwd s ar r T') : HB T' B := by
  unfold isLink at h
  split at h
  · exact h.2 ▸ hb
  · obtain ⟨q, _, h⟩ := h
    split at h
    · exact h.2 ▸ hb
    · split at h
      · exact h.2 ▸ hb
      · split at h
        · exact h.2 ▸ hb
        · split at h
          · exact h.2 ▸ hb
          · obtain ⟨m, _, h⟩ := h
            split at h
            · exact h.2 ▸ hb
            · exact hb.enter h

/-! ### the law's own: who, shown -/
def whoC (u g : Int) : Cr := ⟨u, u, u, g, g⟩
set_option maxHeartbeats 400000 in
theorem who_any (u g : Int) (w : World) :
    Calls Try.prog 10 #[.int .i64 u, .int .i64 g] w fun e w' => e = .returned (cred (whoC u g)) ∧ Below w.heap.size w w' := by
  unfold cred whoC
  dsimp only
  go_enter Try.func10, Try.ntmps10
  go_wp2
  refine bodyPost_ret (v := .agg #[.int .i64 u, .int .i64 u, .int .i64 u, .int .i64 g, .int .i64 g]) (by simp [results, Try.results10, go_sem]) rfl ⟨rfl, ?_⟩
  exact belowA (Below.refl _ _) _
end Go.Proofs.Ytafonmnfeibaiaa
namespace Go.Proofs.Ytafonmnfeibaiaa
open Go.RowKit

theorem sz (s : ByteArray) : s.data.toList.length = s.size := by simp
theorem data_get (s : ByteArray) (j : Nat) (h : j < s.size) : s.data[j]! = s[j] := by
  have h1 : j < s.data.size := h
  rw [getElem!_pos s.data j h1]; rfl
theorem toList_get (s : ByteArray) (j : Nat) (h : j < s.data.toList.length) : s.data.toList[j] = s.data[j]! := by
  have h1 : j < s.data.size := by simpa using h
  rw [getElem!_pos s.data j h1]; simp
theorem contains_idx (l : List UInt8) (c : UInt8) : l.contains c = decide (0 ≤ Lib.indexByte l c) := by
  rw [Bool.eq_iff_iff]
  simp only [List.contains_iff_mem, decide_eq_true_eq]
  constructor
  · intro hm
    have h1 := Lib.indexByte_ge l c
    rcases Int.lt_or_le (Lib.indexByte l c) 0 with h | h
    · obtain ⟨k, hk, he⟩ := List.getElem_of_mem hm
      exact absurd (by rw [List.getElem?_eq_getElem hk, he]) (Lib.indexByte_none (by omega) k)
    · exact h
  · intro h
    obtain ⟨i, hi⟩ : ∃ i : Nat, Lib.indexByte l c = i := ⟨(Lib.indexByte l c).toNat, by omega⟩
    exact List.mem_of_getElem? (Lib.indexByte_some hi).1
theorem nameB_iff (s : ByteArray) : nameB s = true ↔ (¬ s.data.toList = [] ∧ s.size ≤ 14 ∧ ¬ s.data.toList = [46] ∧ ¬ s.data.toList = [46, 46] ∧ plainB s.data.toList = true ∧ 47 ∉ s.data.toList) := by
  simp only [nameB, decide_eq_true_eq]
  have := contains_idx s.data.toList 47
  rw [Bool.eq_iff_iff] at this
  simp only [List.contains_iff_mem, decide_eq_true_eq] at this
  rw [this]

/-! ### The document's Name -/
theorem nameB_neg (s : ByteArray) (j : Nat) (hj : j < s.size) (h : s[j].toNat < 32 ∨ s[j].toNat = 127 ∨ s[j].toNat = 47) : nameB s = false := by
  rw [Bool.eq_false_iff]
  intro hn
  obtain ⟨_, _, _, _, hp, hno⟩ := (nameB_iff s).1 hn
  by_cases h1 : s[j].toNat < 32 ∨ s[j].toNat = 127
  · have : okc s[j] = false := by simp [okc]; omega
    rw [plain_bad s j hj this] at hp; cases hp
  · refine hno ?_
    have e : s[j] = 47 := UInt8.toNat_inj.1 (by have e : (47 : UInt8).toNat = 47 := rfl; omega)
    have : s.data.toList[j]'(by rw [sz]; exact hj) = 47 := by rw [toList_get, data_get s j hj, e]
    rw [← this]; exact List.getElem_mem _
set_option maxHeartbeats 400000 in
theorem rname_any (s : ByteArray) (w : World) :
    Calls Try.prog 25 #[.string s] w fun e w' => e = .returned (.bool (nameB s)) ∧ w = w' := by
  by_cases h1 : s.size < 1
  · have HN : Hid (nameB s = false) := Lib.hid (by
      rw [Bool.eq_false_iff]; intro hn
      have := (nameB_iff s).1 hn
      exact this.1 (List.eq_nil_of_length_eq_zero (by rw [sz]; omega)))
    have h11 : (s.size : Int) < 1 := by omega
    go_enter Try.func25, Try.ntmps25
    go_wp2
    go_ret
    exact ⟨ret_bool HN.out.symm, rfl⟩
  have h11 : ¬ (s.size : Int) < 1 := by omega
  by_cases h2 : 14 < s.size
  · have HN : Hid (nameB s = false) := Lib.hid (by
      rw [Bool.eq_false_iff]; intro hn
      have := (nameB_iff s).1 hn
      omega)
    have h21 : (14 : Int) < s.size := by omega
    go_enter Try.func25, Try.ntmps25
    go_wp2
    go_ret
    exact ⟨ret_bool HN.out.symm, rfl⟩
  have h21 : ¬ (14 : Int) < s.size := by omega
  by_cases h3 : s.data.toList = [46]
  · have HN : Hid (nameB s = false) := Lib.hid (by
      rw [Bool.eq_false_iff]; intro hn
      exact ((nameB_iff s).1 hn).2.2.1 h3)
    have h31 : s.toList = [46] := by rw [toList_data]; exact h3
    clear h3
    go_enter Try.func25, Try.ntmps25
    go_wp2
    go_ret
    exact ⟨ret_bool HN.out.symm, rfl⟩
  have h31 : (s.toList == [46]) = false := by rw [toList_data]; simpa using h3
  by_cases h4 : s.data.toList = [46, 46]
  · have HN : Hid (nameB s = false) := Lib.hid (by
      rw [Bool.eq_false_iff]; intro hn
      exact ((nameB_iff s).1 hn).2.2.2.1 h4)
    have h41 : s.toList = [46, 46] := by rw [toList_data]; exact h4
    clear h3 h4
    go_enter Try.func25, Try.ntmps25
    go_wp2
    go_ret
    exact ⟨ret_bool HN.out.symm, rfl⟩
  have h41 : (s.toList == [46, 46]) = false := by rw [toList_data]; simpa using h4
  have H3 := Lib.hid h3
  have H4 := Lib.hid h4
  clear h3 h4
  go_enter Try.func25, Try.ntmps25
  go_wp2
  go_loop [3] (fun i => ∃ k : Nat, k ≤ s.size ∧ i = .int .i64 k ∧ plainB (s.data.toList.take k) = true ∧ (∀ j (h : j < s.size), j < k → s[j].toNat ≠ 47)) (fun i => s.size - (intOf i).toNat)
  case atStart => exact ⟨0, Nat.zero_le _, rfl, rfl, fun j _ h => by omega⟩
  case round =>
    obtain ⟨k, hk, rfl, hp, hq⟩ := hrel
    have HP := Lib.hid hp
    have HQ := Lib.hid hq
    clear hp hq
    by_cases hlt : k < s.size
    · have HB := Lib.hid (fun h => nameB_neg s k hlt h)
      by_cases g1 : (s[k].toNat : Int) < 32
      · go_wp2
        go_ret
        exact ⟨ret_bool (HB.out (.inl (by omega))).symm, rfl⟩
      by_cases g2 : ((s[k].toNat : Int) == 127) = true
      · go_wp2
        go_ret
        exact ⟨ret_bool (HB.out (.inr (.inl (by simp at g2; omega)))).symm, rfl⟩
      by_cases g3 : ((s[k].toNat : Int) == 47) = true
      · have g2' : ((s[k].toNat : Int) == 127) = false := by simpa using g2
        clear g2
        go_wp2
        go_ret
        exact ⟨ret_bool (HB.out (.inr (.inr (by simp at g3; omega)))).symm, rfl⟩
      have g2' : ((s[k].toNat : Int) == 127) = false := by simpa using g2
      have g3' : ((s[k].toNat : Int) == 47) = false := by simpa using g3
      have HO : Hid (okc s[k] = true) := Lib.hid (by simp at g2' g3'; simp [okc]; omega)
      have HE : Hid (s[k].toNat ≠ 47) := Lib.hid (by simp at g3'; omega)
      clear g2 g3
      go_wp2
      go_round
      case rel =>
        refine ⟨k + 1, by omega, by go_num, by rw [plain_take s k hlt, HP.out, HO.out]; rfl, fun j h hj => ?_⟩
        by_cases e : j = k
        · subst e; exact HE.out
        · exact HQ.out j h (by omega)
      case measure => simp [intOf]; omega
    · have HN : Hid (nameB s = true) := Lib.hid (by
        rw [nameB_iff]
        refine ⟨fun e => ?_, by omega, H3.out, H4.out, by rw [← plain_all s k (by omega)]; exact HP.out, fun hm => ?_⟩
        · have h9 := congrArg List.length e; rw [sz] at h9; have h8 : ([] : List UInt8).length = 0 := rfl; omega
        · obtain ⟨j, hj, he⟩ := List.getElem_of_mem hm
          have hj2 : j < s.size := by rw [← sz]; exact hj
          rw [toList_get, data_get s j hj2] at he
          exact HQ.out j hj2 (by omega) (by rw [he]; rfl))
      go_wp2
      go_ret
      exact ⟨ret_bool HN.out.symm, rfl⟩
theorem rname_ok (s : ByteArray) (w : World) : Calls Try.prog 25 #[.string s] w fun e w' => e = .returned (.bool (okN (bs s))) ∧ w = w' := by
  rw [← nameB_ok]; exact rname_any s w
end Go.Proofs.Ytafonmnfeibaiaa
namespace Go.Proofs.Ytafonmnfeibaiaa
open Go.RowKit

/-! ### What must be in any case: the statements' own small case -/
def sh1 : IT.Tr := IT.upd (IT.rootT 493 0 0) 2 (some ⟨1, 448, 5, 6, 0, 1, [], [], 2⟩)
def sh2 : IT.Tr := IT.entT sh1 1 2 [97] ⟨1, 493, 0, 0, 0, 0, [], [], 1⟩ ⟨1, 448, 5, 6, 0, 1, [], [], 2⟩
def sh3 : IT.Tr := IT.upd sh2 2 (some ⟨1, 448, 5, 6, 0, 0, [], [], 1⟩)
def sh4 : IT.Tr := IT.delT sh3 1 2 [97] ⟨1, 493, 0, 0, 0, 0, [], [([97], 2)], 1⟩ ⟨1, 448, 5, 6, 0, 0, [], [], 1⟩
def sh5 : IT.Tr := IT.rem sh4 2
theorem sh_make {i : Nat} {r : Int} {T' : IT.Tr} (h : IT.isMake rt (IT.rootT 493 0 0) 1 448 5 6 0 i r T') : i = 2 ∧ r = 0 ∧ T' = sh1 := by
  unfold IT.isMake at h
  have hr : rt 448 5 6 := by unfold rt; decide +kernel
  rw [if_neg (by rintro (a | a | a); omega; omega; exact a hr), if_neg (by omega), if_neg (fun hh => hh 2 (by omega) (by omega) rfl)] at h
  obtain ⟨h1, h2, h3, h4, h5, h6⟩ := h
  have hi : i = 2 := by
    by_cases e : i = 1
    · subst e; cases h4
    · by_cases e2 : 2 < i
      · exact absurd rfl (h5 2 (by omega) e2)
      · omega
  subst hi
  exact ⟨rfl, h1, h6⟩
set_option maxRecDepth 100000 in
theorem sh_enter {r : Int} {T' : IT.Tr} (h : IT.isEnter okN sh1 1 [97] 2 r T') : r = 0 ∧ T' = sh2 := by
  unfold IT.isEnter at h
  have e1 : sh1 1 = some ⟨1, 493, 0, 0, 0, 0, [], [], 1⟩ := by decide +kernel
  have e2 : sh1 2 = some ⟨1, 448, 5, 6, 0, 1, [], [], 2⟩ := by decide +kernel
  rw [e1, e2] at h
  dsimp only at h
  have hl : IT.lnk sh1 2 = 0 := by decide +kernel
  have hb : ¬ IT.Bel sh1 2 1 := IT.bel_top e1 (by decide) rfl
  rw [if_neg (by decide), if_neg (by decide +kernel), if_neg (by decide), if_neg (by rw [hl]; decide), if_neg (by decide), if_neg (fun hh => hb hh.2)] at h
  exact h
set_option maxRecDepth 100000 in
theorem sh_enter2 {r : Int} {T' : IT.Tr} (h : IT.isEnter okN sh2 2 [98] 2 r T') : r = 12 ∧ T' = sh2 := by
  unfold IT.isEnter at h
  have e2 : sh2 2 = some ⟨1, 448, 5, 6, 0, 1, [], [], 1⟩ := by decide +kernel
  rw [e2] at h
  dsimp only at h
  have hl : IT.lnk sh2 2 = 1 := by decide +kernel
  rw [if_neg (by decide), if_neg (by decide +kernel), if_neg (by decide), if_pos (by rw [hl]; decide)] at h
  exact h
theorem sh_drop {r : Bool} {T' : IT.Tr} (h : IT.isDrop sh2 2 r T') : T' = sh3 := by
  unfold IT.isDrop at h
  have e2 : sh2 2 = some ⟨1, 448, 5, 6, 0, 1, [], [], 1⟩ := by decide +kernel
  rw [e2] at h
  dsimp only at h
  rw [if_neg (by decide)] at h
  exact IT.nf_stay h.2 (IT.no_can_list (by decide +kernel))
set_option maxRecDepth 100000 in
theorem sh_remove {r : Int} {T' : IT.Tr} (h : IT.isRemove sh3 1 [97] r T') : r = 0 ∧ T' = sh5 := by
  unfold IT.isRemove at h
  have e1 : sh3 1 = some ⟨1, 493, 0, 0, 0, 0, [], [([97], 2)], 1⟩ := by decide +kernel
  have e2 : sh3 2 = some ⟨1, 448, 5, 6, 0, 0, [], [], 1⟩ := by decide +kernel
  rw [e1] at h
  dsimp only at h
  rw [if_neg (by decide), show IT.findN [97] [([97], 2)] = some 2 by decide +kernel] at h
  dsimp only at h
  obtain ⟨m, hm, h⟩ := h
  rw [e2] at hm
  obtain rfl := Option.some.inj hm
  rw [if_neg (by decide)] at h
  exact ⟨h.1, IT.nf_one h.2 (IT.can_iff.2 ⟨by omega, by decide +kernel⟩) (IT.no_can_list (by decide +kernel))⟩
theorem hb_le {T : IT.Tr} (h : (List.range 201).all (fun k => match T k with
    | none => true
    | some m => decide (m.holds ≤ 1000)) = true) (hs : IT.Sound okN T) : HB T 1000000 := fun k m hk => by
  have hr := hs.1.rng k m hk
  have h2 := List.all_eq_true.1 h k (by simp; omega)
  rw [hk] at h2
  have : m.holds ≤ 1000 := of_decide_eq_true h2
  omega

set_option maxRecDepth 100000 in
set_option maxHeartbeats 800000 in
theorem shown_any (w : World) : Calls Try.prog 20 #[] w fun e w' => e = .returned (.bool true) ∧ Below w.heap.size w w' := by
  go_enter Try.func20, Try.ntmps20
  go_wp2_with fail
  refine (new_ok _ _ _ _ (by decide +kernel)).mono ?_
  rintro e w1 ⟨t, S0, rfl, h0⟩
  have H0 := Lib.hid h0
  clear h0
  go_wp2_with fail
  refine (make_any H0.out.tre _ _ _ _ _).mono ?_
  rintro e w2 ⟨i, r, rfl, hst⟩
  obtain ⟨S1, T1, h1, hr, _⟩ := H0.out.stp hst fun T' h => h.sound H0.out.snd
  obtain ⟨rfl, rfl, rfl⟩ := sh_make hr
  have H1 := Lib.hid h1
  clear hst hr h1
  go_wp2_with fail
  refine (enter_any H1.out.tre 1 2 _).mono ?_
  rintro e w3 ⟨r, rfl, hst⟩
  obtain ⟨S2, T2, h2, hr, _⟩ := H1.out.stp hst fun T' h => h.sound H1.out.snd
  obtain ⟨rfl, rfl⟩ := sh_enter hr
  have H2 := Lib.hid h2
  clear hst hr h2
  go_wp2_with fail
  refine (look_any H2.out.tre 2 _).mono ?_
  rintro e w4 ⟨he, rfl⟩
  replace he : e = .returned (.tuple #[.int .i64 1, .bool true]) := he.trans (congrArg _ (by kernel_rfl))
  subst he
  go_wp2_with fail
  refine (enter_any H2.out.tre 2 2 _).mono ?_
  rintro e w5 ⟨r, rfl, hst⟩
  obtain ⟨S3, T3, h3, hr, _⟩ := H2.out.stp hst fun T' h => h.sound H2.out.snd
  obtain ⟨rfl, rfl⟩ := sh_enter2 hr
  have H3 := Lib.hid h3
  clear hst hr h3
  go_wp2_with fail
  refine (drop_any H3.out.tre (hb_le (by decide +kernel) H3.out.snd) 2).mono ?_
  rintro e w6 ⟨r, rfl, hst⟩
  obtain ⟨S4, T4, h4, hr, _⟩ := H3.out.stp hst fun T' h => h.sound H3.out.snd
  obtain rfl := sh_drop hr
  have H4 := Lib.hid h4
  clear hst hr h4
  go_wp2_with fail
  refine (stat_any H4.out.tre 2).mono ?_
  rintro e w7 ⟨he, hb⟩
  replace he : e = .returned (.tuple #[.agg #[.int .i64 2, .int .i64 1, .int .i64 448, .int .i64 5, .int .i64 6, .int .i64 1, .int .i64 0, .int .i64 0], .bool true]) := he.trans (congrArg _ (by kernel_rfl))
  subst he
  have H5 := Lib.hid (H4.out.below hb)
  clear hb
  go_wp2_with fail
  refine (remove_any (H5.out.alloc _).tre 1 _).mono ?_
  rintro e w8 ⟨r, rfl, hst⟩
  obtain ⟨S6, T6, h6, hr, _⟩ := (H5.out.alloc _).stp hst fun T' h => h.sound H5.out.snd
  obtain ⟨rfl, rfl⟩ := sh_remove hr
  have H6 := Lib.hid h6
  clear hst hr h6
  go_wp2_with fail
  refine (stat_any H6.out.tre 2).mono ?_
  rintro e w9 ⟨he, hb⟩
  replace he : e = .returned (.tuple #[.agg #[.int .i64 0, .int .i64 0, .int .i64 0, .int .i64 0, .int .i64 0, .int .i64 0, .int .i64 0, .int .i64 0], .bool false]) := he.trans (congrArg _ (by kernel_rfl))
  subst he
  have H7 := Lib.hid (H6.out.below hb)
  clear hb
  go_wp2
  go_ret
  exact ⟨rfl, (H7.out.alloc _).own.below⟩
end Go.Proofs.Ytafonmnfeibaiaa
namespace Go.Proofs.Ytafonmnfeibaiaa
open Go.RowKit

/-! ### the law's own small case, plainly -/
def s7r : IT.Nd := ⟨1, 493, 0, 0, 0, 0, [], [], 1⟩
def s7d : IT.Nd := { newN (whoC 0 0) 1 448 2 with holds := 0 }
def s71 : IT.Tr := IT.entT (IT.upd (IT.rootT 493 0 0) 2 (some s7d)) 1 2 [100] s7r s7d
def s7d2 : IT.Nd := ⟨1, 448, 5, 5, 0, 0, [], [], 1⟩
def s72 : IT.Tr := IT.upd s71 2 (some s7d2)
def s7f : IT.Nd := newN (whoC 5 5) 0 420 3
def s73 : IT.Tr := IT.entT (IT.upd s72 3 (some s7f)) 2 3 [120] s7d2 s7f
theorem rt_of {m o g : Int} (h : rightB m o g = true) : rt m o g := h
theorem s7_mkdir {r : Int} {T' : IT.Tr} (h : isMkdir (IT.rootT 493 0 0) (whoC 0 0) 1 [47, 100] 448 r T') : r = 0 ∧ T' = s71 :=
  mkdir_new (IT.rootT_sound okN 493 0 0) (d := 1) (n := s7r) (nm := [100]) (must := false) (by kernel_rfl) rfl rfl (by decide +kernel) rfl (by decide) (by decide +kernel) (by decide +kernel) (rt_of (by decide +kernel)) (j := 2) ⟨by omega, by omega, rfl, fun k h1 h2 => (show k = 1 by omega) ▸ (show IT.rootT 493 0 0 1 ≠ none from fun e => by cases e)⟩ h
theorem s7_chown {r : Int} {T' : IT.Tr} (h : isChown s71 (whoC 0 0) 1 [100] 5 5 r T') : r = 0 ∧ T' = s72 := by
  unfold isChown at h
  have hf : findT s71 (whoC 0 0) 1 [100] = (2, 0) := by kernel_rfl
  rw [hf, if_neg (by decide)] at h
  obtain ⟨m, hm, h⟩ := h
  have e2 : s71 2 = some ⟨1, 448, 0, 0, 0, 0, [], [], 1⟩ := by kernel_rfl
  rw [e2] at hm
  obtain rfl := Option.some.inj hm
  rw [if_neg (by decide)] at h
  unfold IT.isSet at h
  rw [e2] at h
  dsimp only at h
  rw [if_neg (fun hh => hh (rt_of (by decide +kernel)))] at h
  exact h
theorem s7_open {i : Nat} {r : Int} {T' : IT.Tr} (hs : IT.Sound okN s72) (h : isOpen s72 (whoC 5 5) 1 [47, 100, 47, 120] ⟨2, true, false, false, false, 420⟩ i r T') : i = 3 ∧ r = 0 ∧ T' = s73 := by
  unfold isOpen at h
  have he : entryT s72 (whoC 5 5) 1 [47, 100, 47, 120] = .ok ⟨2, [120], false, none⟩ := by kernel_rfl
  rw [if_neg (by decide +kernel), if_pos rfl, he] at h
  dsimp only at h
  rw [if_neg (by decide)] at h
  obtain ⟨m, hm, h⟩ := h
  have e2 : s72 2 = some s7d2 := by kernel_rfl
  rw [e2] at hm
  obtain rfl := Option.some.inj hm
  rw [show mayN s7d2 (whoC 5 5) 2 = true by decide +kernel] at h
  exact makes_new hs e2 rfl (by decide +kernel) rfl (by decide) (.inl rfl) (rt_of (by decide +kernel)) (j := 3) ⟨by omega, by omega, by kernel_rfl, fun k h1 h2 => by
    rcases (show k = 1 ∨ k = 2 by omega) with rfl | rfl
    · rw [show s72 1 = some { s7r with names := [([100], 2)] } by kernel_rfl]; exact fun e => by cases e
    · rw [e2]; exact fun e => by cases e⟩ h
theorem s7_remove {r : Int} {T' : IT.Tr} (h : isWRemove s73 (whoC 6 6) 1 [47, 100, 47, 120] false r T') : r = 4 ∧ T' = s73 := by
  unfold isWRemove at h
  have he : entryT s73 (whoC 6 6) 1 [47, 100, 47, 120] = .error 4 := by kernel_rfl
  rw [he] at h
  exact h
theorem hb_few {T : IT.Tr} (h : (List.range 201).all (fun k => match T k with
    | none => true
    | some m => decide (m.holds ≤ 1000)) = true) (hs : IT.Sound okN T) : HB T 1000 := fun k m hk => by
  have hr := hs.1.rng k m hk
  have h2 := List.all_eq_true.1 h k (by simp; omega)
  rw [hk] at h2
  exact of_decide_eq_true h2
theorem bs_lit (l : List UInt8) : bs ⟨l.toArray⟩ = l := bs_tx l
set_option maxRecDepth 100000 in
set_option maxHeartbeats 4000000 in
theorem shown7_any (w : World) : Calls Try.prog 8 #[] w fun e w' => e = .returned (.bool true) ∧ Below w.heap.size w w' := by
  go_enter Try.func8, Try.ntmps8
  go_wp2_with fail
  refine (new_ok _ _ _ _ (by decide +kernel)).mono ?_
  rintro e w1 ⟨t, S0, rfl, h0⟩
  have H0 := Lib.hid h0
  clear h0
  go_wp2_with fail
  refine (who_any _ _ _).mono ?_
  rintro e w2 ⟨rfl, hb⟩
  have H1 := Lib.hid (H0.out.below hb)
  clear hb
  go_wp2_with fail
  refine (walkMkdir_any H1.out.tre ((hb_few (by decide +kernel) H1.out.snd).mono (by decide)) 1 (whoC 0 0) _ _).mono ?_
  rintro e w3 ⟨r, rfl, hst⟩
  obtain ⟨S1, T1, h1, hr, _⟩ := H1.out.stp hst fun T' h => h.sound H1.out.snd
  obtain ⟨rfl, rfl⟩ := s7_mkdir hr
  have H2 := Lib.hid h1
  clear hst hr h1
  go_wp2_with fail
  refine (who_any _ _ _).mono ?_
  rintro e w4 ⟨rfl, hb⟩
  have H3 := Lib.hid (H2.out.below hb)
  clear hb
  go_wp2_with fail
  refine (walkChown_any H3.out.tre 1 (whoC 0 0) _ _ _).mono ?_
  rintro e w5 ⟨r, rfl, hst⟩
  obtain ⟨S2, T2, h2, hr, _⟩ := H3.out.stp hst fun T' h => h.sound H3.out.snd
  obtain ⟨rfl, rfl⟩ := s7_chown hr
  have H4 := Lib.hid h2
  clear hst hr h2
  go_wp2_with fail
  refine (who_any _ _ _).mono ?_
  rintro e w6 ⟨rfl, hb⟩
  have H5 := Lib.hid (H4.out.below hb)
  clear hb
  go_wp2_with fail
  refine (walkOpen_any H5.out.tre ((hb_few (by decide +kernel) H5.out.snd).mono (by decide)) 1 (whoC 5 5) _ ⟨2, true, false, false, false, 420⟩).mono ?_
  rintro e w7 ⟨i, r, rfl, hst⟩
  obtain ⟨S3, T3, h3, hr, _⟩ := H5.out.stp hst fun T' h => h.sound H5.out.snd
  obtain ⟨rfl, rfl, rfl⟩ := s7_open H5.out.snd hr
  have H6 := Lib.hid h3
  clear hst hr h3
  go_wp2_with fail
  refine (who_any _ _ _).mono ?_
  rintro e w8 ⟨rfl, hb⟩
  have H7 := Lib.hid (H6.out.below hb)
  clear hb
  go_wp2_with fail
  refine (walkFind_any H7.out.tre 1 (whoC 6 6) _ (k := 0) (r := 4) (by kernel_rfl)).mono ?_
  rintro e w9 ⟨he, hb⟩
  replace he : e = .returned (.tuple #[.int .i64 0, .int .i64 4]) := he
  subst he
  have H8 := Lib.hid (H7.out.below hb)
  clear hb
  go_wp2_with fail
  refine (who_any _ _ _).mono ?_
  rintro e w10 ⟨rfl, hb⟩
  have H9 := Lib.hid (H8.out.below hb)
  clear hb
  go_wp2_with fail
  refine (walkFind_any H9.out.tre 1 (whoC 0 0) _ (k := 3) (r := 0) (by kernel_rfl)).mono ?_
  rintro e w11 ⟨he, hb⟩
  replace he : e = .returned (.tuple #[.int .i64 3, .int .i64 0]) := he
  subst he
  have H10 := Lib.hid (H9.out.below hb)
  clear hb
  go_wp2_with fail
  refine (who_any _ _ _).mono ?_
  rintro e w12 ⟨rfl, hb⟩
  have H11 := Lib.hid (H10.out.below hb)
  clear hb
  go_wp2_with fail
  refine (walkRemove_any H11.out.tre 1 (whoC 6 6) _ _).mono ?_
  rintro e w13 ⟨r, rfl, hst⟩
  obtain ⟨S4, T4, h4, hr, _⟩ := H11.out.stp hst fun T' h => h.sound H11.out.snd
  obtain ⟨rfl, rfl⟩ := s7_remove hr
  have H12 := Lib.hid h4
  clear hst hr h4
  go_wp2
  go_ret
  exact ⟨rfl, H12.out.own.below⟩
end Go.Proofs.Ytafonmnfeibaiaa
namespace Go.Proofs.Ytafonmnfeibaiaa
open Go.RowKit

/-! ### WalkLinks, plainly -/
def lkT (nm : List (IT.Bytes × Nat)) (mo : Int) (d : IT.Bytes) : IT.Tr := fun k => if k = 1 then some ⟨1, 493, 5, 5, 0, 0, [], nm, 1⟩ else if k = 2 then some ⟨0, mo, 5, 5, 0, 1, d, [], 0⟩ else none
theorem lk_one (nm : List (IT.Bytes × Nat)) (mo : Int) (d : IT.Bytes) : lkT nm mo d 1 = some ⟨1, 493, 5, 5, 0, 0, [], nm, 1⟩ := rfl
theorem lk_two (nm : List (IT.Bytes × Nat)) (mo : Int) (d : IT.Bytes) : lkT nm mo d 2 = some ⟨0, mo, 5, 5, 0, 1, d, [], 0⟩ := rfl
theorem lk_can (nm : List (IT.Bytes × Nat)) (mo : Int) (d : IT.Bytes) (i : Nat) : ¬ IT.can (lkT nm mo d) i := by
  rintro ⟨h1, _, ⟨n, hn, h0⟩, _⟩
  unfold lkT at hn
  rw [if_neg h1] at hn
  split at hn
  · obtain rfl := Option.some.inj hn; cases h0
  · cases hn
theorem lk_open {i : Nat} {r : Int} {T' : IT.Tr} (h : isOpen (IT.rootT 493 5 5) (whoC 5 5) 1 [47, 97] ⟨2, true, false, false, false, 2468⟩ i r T') : i = 2 ∧ r = 0 ∧ T' = lkT [([97], 2)] 2468 [] := by
  unfold isOpen at h
  have he : entryT (IT.rootT 493 5 5) (whoC 5 5) 1 [47, 97] = .ok ⟨1, [97], false, none⟩ := by kernel_rfl
  rw [if_neg (by decide +kernel), if_pos rfl, he] at h
  dsimp only at h
  rw [if_neg (by decide)] at h
  obtain ⟨m, hm, h⟩ := h
  have e1 : IT.rootT 493 5 5 1 = some ⟨1, 493, 5, 5, 0, 0, [], [], 1⟩ := rfl
  rw [e1] at hm
  obtain rfl := Option.some.inj hm
  rw [show mayN ⟨1, 493, 5, 5, 0, 0, [], [], 1⟩ (whoC 5 5) 2 = true by decide +kernel] at h
  obtain ⟨h1, h2, h3⟩ := makes_new (IT.rootT_sound okN 493 5 5) e1 rfl (by decide +kernel) rfl (by decide) (.inl rfl) (rt_of (by decide +kernel)) (j := 2) ⟨by omega, by omega, rfl, fun k h1 h2 => (show k = 1 by omega) ▸ (show IT.rootT 493 5 5 1 ≠ none from fun e => by cases e)⟩ h
  refine ⟨h1, h2, h3.trans ?_⟩
  funext k
  unfold IT.entT IT.upd lkT IT.rootT
  by_cases a : k = 1
  · subst a; rfl
  · by_cases b : k = 2
    · subst b; rfl
    · rw [if_neg a, if_neg b, if_neg b, if_neg a, if_neg a, if_neg b]
theorem lk_put {nm : List (IT.Bytes × Nat)} {mo : Int} {d s : IT.Bytes} {r : Int} {T' : IT.Tr} (hl : d.length + s.length ≤ 4096) (hr : rightB (clr mo) 5 5 = true) (h : isWPut (lkT nm mo d) 2 (d.length : Int) s r T') : r = 0 ∧ T' = lkT nm (clr mo) (d ++ s) := by
  obtain ⟨T1, h1, h2⟩ := h
  unfold IT.isPut at h1
  rw [lk_two] at h1
  dsimp only at h1
  rw [if_neg (by decide), if_neg (by decide), if_neg (by omega), if_neg (by omega)] at h1
  obtain ⟨rfl, rfl⟩ := h1
  rw [if_pos rfl] at h2
  unfold isPlainer at h2
  rw [IT.upd_same] at h2
  dsimp only at h2
  obtain ⟨r2, h2⟩ := h2
  unfold IT.isSet at h2
  rw [IT.upd_same] at h2
  dsimp only at h2
  rw [if_neg (fun hh => hh hr)] at h2
  obtain ⟨rfl, rfl⟩ := h2
  refine ⟨rfl, ?_⟩
  funext k
  unfold IT.upd lkT
  by_cases b : k = 2
  · subst b
    rw [if_pos rfl, if_neg (by decide), if_pos rfl]
    have e : d.take (d.length : Int).toNat ++ s ++ d.drop ((d.length : Int).toNat + s.length) = d ++ s := by
      rw [Int.toNat_natCast, List.take_length, List.drop_of_length_le (by omega), List.append_nil]
    rw [e]
  · by_cases a : k = 1
    · rw [if_neg b, if_neg b, if_pos a, if_pos a]
    · rw [if_neg b, if_neg b, if_neg a, if_neg b, if_neg a, if_neg b]
theorem lk_putm {nm : List (IT.Bytes × Nat)} {mo : Int} {d s : IT.Bytes} {r : Int} {T' : IT.Tr} (hl : d.length + s.length ≤ 4096) (hr : rightB (clr mo) 5 5 = true) (mo' : Int) (hc : clr mo = mo') (d' : IT.Bytes) (hd : d ++ s = d') (h : isWPut (lkT nm mo d) 2 (d.length : Int) s r T') : r = 0 ∧ T' = lkT nm mo' d' := by
  subst hc; subst hd; exact lk_put hl hr h
theorem lk_link {d : IT.Bytes} {r : Int} {T' : IT.Tr} (h : isLink (lkT [([97], 2)] 420 d) (whoC 5 5) 1 [47, 97] [47, 98] r T') : r = 0 ∧ T' = lkT [([97], 2), ([98], 2)] 420 d := by
  unfold isLink at h
  have hf : findT (lkT [([97], 2)] 420 d) (whoC 5 5) 1 [47, 97] = (2, 0) := by kernel_rfl
  rw [hf, if_neg (by decide), lk_two] at h
  obtain ⟨q, hq, h⟩ := h
  obtain rfl := Option.some.inj hq
  have he : entryT (lkT [([97], 2)] 420 d) (whoC 5 5) 1 [47, 98] = .ok ⟨1, [98], false, none⟩ := by kernel_rfl
  dsimp only at h
  rw [if_neg (by decide), he] at h
  dsimp only at h
  rw [if_neg (by decide), if_neg (by decide)] at h
  obtain ⟨m, hm, h⟩ := h
  rw [lk_one] at hm
  obtain rfl := Option.some.inj hm
  rw [if_neg (by decide +kernel)] at h
  unfold IT.isEnter at h
  rw [lk_one, lk_two] at h
  dsimp only at h
  have hl : IT.lnk (lkT [([97], 2)] 420 d) 2 = 1 := by kernel_rfl
  rw [if_neg (by decide), if_neg (by decide +kernel), if_neg (by decide), if_neg (by rw [hl]; decide), if_neg (by decide), if_neg (fun hh => by cases hh.1)] at h
  refine ⟨h.1, h.2.trans ?_⟩
  funext k
  unfold IT.entT IT.upd lkT
  by_cases a : k = 1
  · subst a; rfl
  · by_cases b : k = 2
    · subst b; rfl
    · rw [if_neg a, if_neg b, if_neg a, if_neg b, if_neg a]
theorem lk_remove {d : IT.Bytes} {r : Int} {T' : IT.Tr} (h : isWRemove (lkT [([97], 2), ([98], 2)] 420 d) (whoC 5 5) 1 [47, 97] false r T') : r = 0 ∧ T' = lkT [([98], 2)] 420 d := by
  unfold isWRemove at h
  have he : entryT (lkT [([97], 2), ([98], 2)] 420 d) (whoC 5 5) 1 [47, 97] = .ok ⟨1, [97], false, some 2⟩ := by kernel_rfl
  rw [he] at h
  dsimp only at h
  obtain ⟨m, q, hm, hq, h⟩ := h
  rw [lk_one] at hm
  rw [lk_two] at hq
  obtain rfl := Option.some.inj hm
  obtain rfl := Option.some.inj hq
  dsimp only at h
  rw [if_neg (by decide), if_neg (by decide), if_neg (by decide +kernel), if_neg (by decide +kernel)] at h
  unfold IT.isRemove at h
  rw [lk_one] at h
  dsimp only at h
  rw [if_neg (by decide), show IT.findN [97] [([97], 2), ([98], 2)] = some 2 by decide +kernel] at h
  dsimp only at h
  obtain ⟨m, hm, h⟩ := h
  rw [lk_two] at hm
  obtain rfl := Option.some.inj hm
  dsimp only at h
  rw [if_neg (by decide)] at h
  have e : IT.delT (lkT [([97], 2), ([98], 2)] 420 d) 1 2 [97] ⟨1, 493, 5, 5, 0, 0, [], [([97], 2), ([98], 2)], 1⟩ ⟨0, 420, 5, 5, 0, 1, d, [], 0⟩ = lkT [([98], 2)] 420 d := by
    funext k
    unfold IT.delT IT.upd lkT
    by_cases a : k = 1
    · subst a; rfl
    · by_cases b : k = 2
      · subst b; rfl
      · rw [if_neg a, if_neg b, if_neg a, if_neg b, if_neg a]
  rw [e] at h
  exact ⟨h.1, IT.nf_stay h.2 (lk_can _ _ _)⟩
theorem lk_find1 {d : IT.Bytes} : findT (lkT [([97], 2), ([98], 2)] 420 d) (whoC 5 5) 1 [47, 98] = (2, 0) := by kernel_rfl
theorem lk_find2 {d : IT.Bytes} : findT (lkT [([98], 2)] 420 d) (whoC 5 5) 1 [97] = (0, 3) := by kernel_rfl
theorem lk_find3 {d : IT.Bytes} : findT (lkT [([98], 2)] 420 d) (whoC 5 5) 1 [98] = (2, 0) := by kernel_rfl
theorem lk_stat {d : IT.Bytes} : statV (lkT [([97], 2), ([98], 2)] 420 d) 2 = infoV 2 0 420 5 5 2 (d.length : Nat) 0 := by kernel_rfl
theorem lk_data (nm : List (IT.Bytes × Nat)) (mo : Int) (d : IT.Bytes) : dataT (lkT nm mo d) 2 = d := rfl
theorem lk_hb (nm : List (IT.Bytes × Nat)) (mo : Int) (d : IT.Bytes) : HB (lkT nm mo d) 1000 := fun k m hk => by
  unfold lkT at hk
  split at hk
  · obtain rfl := Option.some.inj hk; exact Nat.zero_le _
  · split at hk
    · obtain rfl := Option.some.inj hk; exact (show 1 ≤ 1000 by decide)
    · cases hk
end Go.Proofs.Ytafonmnfeibaiaa
namespace Go.Proofs.Ytafonmnfeibaiaa
open Go.RowKit

/-! ### WalkLinks, walked -/
theorem tx_app (a b : ByteArray) : tx (bs a ++ bs b) = a ++ b := bs_inj (by rw [bs_tx]; unfold bs; rw [ByteArray.data_append, Array.toList_append])
set_option maxRecDepth 100000 in
set_option maxHeartbeats 8000000 in
theorem links_law (s more : ByteArray) (w : World) (hs : s.size ≤ maxLen) (hm : more.size ≤ maxLen) : Calls Try.prog 4 #[.string s, .string more] w fun e w' => e = .returned (.bool true) ∧ Below w.heap.size w w' := by
  unfold maxLen at hs hm
  by_cases h1 : s.size ≤ 2000
  · by_cases h2 : more.size ≤ 2000
    · have g1 : (s.size : Int) ≤ 2000 := by omega
      have g2 : (more.size : Int) ≤ 2000 := by omega
      have g3 : (0 : Int) ≤ s.size := by omega
      have HL1 := Lib.hid h1
      have HL2 := Lib.hid h2
      clear h1 h2 hs hm
      go_enter Try.func4, Try.ntmps4
      go_wp2_with fail
      refine (shown7_any _).mono ?_
      rintro e w1 ⟨rfl, hb⟩
      have HB0 := Lib.hid hb
      clear hb
      go_wp2_with fail
      refine (new_ok _ _ _ _ (by decide +kernel)).mono ?_
      rintro e w2 ⟨t, S0, rfl, h0⟩
      have H0 := Lib.hid h0
      clear h0
      go_wp2_with fail
      refine (who_any _ _ _).mono ?_
      rintro e w3 ⟨rfl, hb⟩
      have H1 := Lib.hid ((H0.out.below hb).alloc (.cells #[.int .i64 5, .int .i64 5, .int .i64 5, .int .i64 5, .int .i64 5] 27))
      have q0 := alloc_heap w3 (.cells #[.int .i64 5, .int .i64 5, .int .i64 5, .int .i64 5, .int .i64 5] 27)
      have HR := Lib.hid (show w2.heap.size ≤ w3.heap.size from hb.size)
      clear hb
      have HF0 : Hid (Fr (w3.alloc (.cells #[.int .i64 5, .int .i64 5, .int .i64 5, .int .i64 5, .int .i64 5] 27)) t S0 w3.heap.size) := Lib.hid ⟨lt_of_heap q0, fun hf => by have := H0.out.tre.rep.foot_lt hf; have := HR.out; omega⟩
      have HQ0 := Lib.hid q0
      clear q0
      unfold cred whoC
      dsimp only
      go_wp2_with fail
      refine (walkOpen_any H1.out.tre ((hb_few (by decide +kernel) H1.out.snd).mono (by decide)) 1 (whoC 5 5) _ ⟨2, true, false, false, false, 2468⟩).mono ?_
      rintro e w4 ⟨i, r, rfl, hst⟩
      obtain ⟨S4, T4, h2, hr, g⟩ := H1.out.stp hst fun T' h => h.sound H1.out.snd
      obtain ⟨rfl, rfl, rfl⟩ := lk_open hr
      have q := (HF0.out.heap g).trans HQ0.out
      have a0 : w4.cell? ⟨w3.heap.size, 0, none⟩ = some (.int .i64 5) := cell_of q 0
      have a1 : w4.cell? ⟨w3.heap.size, 1, none⟩ = some (.int .i64 5) := cell_of q 1
      have a2 : w4.cell? ⟨w3.heap.size, 2, none⟩ = some (.int .i64 5) := cell_of q 2
      have a3 : w4.cell? ⟨w3.heap.size, 3, none⟩ = some (.int .i64 5) := cell_of q 3
      have a4 : w4.cell? ⟨w3.heap.size, 4, none⟩ = some (.int .i64 5) := cell_of q 4
      have HF1 := Lib.hid (HF0.out.mv g)
      have HQ1 := Lib.hid q
      have H2 := Lib.hid h2
      clear hst hr h2 g q
      go_wp2_with fail
      refine (walkPut_any H2.out.tre 2 0 s).mono ?_
      rintro e w5 ⟨r, rfl, hst⟩
      obtain ⟨S5, T5, h2, hr, g⟩ := H2.out.stp hst fun T' h => h.sound H2.out.snd
      clear a0 a1 a2 a3 a4
      obtain ⟨rfl, rfl⟩ := lk_putm (d := []) (s := bs s) (by rw [bs_len]; have := HL1.out; simp; omega) (by decide +kernel) 420 (by decide +kernel) (bs s) rfl hr
      have q := (HF1.out.heap g).trans HQ1.out
      have a0 : w5.cell? ⟨w3.heap.size, 0, none⟩ = some (.int .i64 5) := cell_of q 0
      have a1 : w5.cell? ⟨w3.heap.size, 1, none⟩ = some (.int .i64 5) := cell_of q 1
      have a2 : w5.cell? ⟨w3.heap.size, 2, none⟩ = some (.int .i64 5) := cell_of q 2
      have a3 : w5.cell? ⟨w3.heap.size, 3, none⟩ = some (.int .i64 5) := cell_of q 3
      have a4 : w5.cell? ⟨w3.heap.size, 4, none⟩ = some (.int .i64 5) := cell_of q 4
      have HF2 := Lib.hid (HF1.out.mv g)
      have HQ2 := Lib.hid q
      have H3 := Lib.hid h2
      clear hst hr h2 g q
      go_wp2_with fail
      refine (walkLink_any H3.out.tre 1 (whoC 5 5) _ _).mono ?_
      rintro e w6 ⟨r, rfl, hst⟩
      obtain ⟨S6, T6, h2, hr, g⟩ := H3.out.stp hst fun T' h => h.sound H3.out.snd
      clear a0 a1 a2 a3 a4
      obtain ⟨rfl, rfl⟩ := lk_link hr
      have q := (HF2.out.heap g).trans HQ2.out
      have a0 : w6.cell? ⟨w3.heap.size, 0, none⟩ = some (.int .i64 5) := cell_of q 0
      have a1 : w6.cell? ⟨w3.heap.size, 1, none⟩ = some (.int .i64 5) := cell_of q 1
      have a2 : w6.cell? ⟨w3.heap.size, 2, none⟩ = some (.int .i64 5) := cell_of q 2
      have a3 : w6.cell? ⟨w3.heap.size, 3, none⟩ = some (.int .i64 5) := cell_of q 3
      have a4 : w6.cell? ⟨w3.heap.size, 4, none⟩ = some (.int .i64 5) := cell_of q 4
      have HF3 := Lib.hid (HF2.out.mv g)
      have HQ3 := Lib.hid q
      have H4 := Lib.hid h2
      clear hst hr h2 g q
      go_wp2_with fail
      refine (walkPut_any H4.out.tre 2 s.size more).mono ?_
      rintro e w7 ⟨r, rfl, hst⟩
      obtain ⟨S7, T7, h2, hr, g⟩ := H4.out.stp hst fun T' h => h.sound H4.out.snd
      clear a0 a1 a2 a3 a4
      rw [← bs_len s] at hr
      obtain ⟨rfl, rfl⟩ := lk_putm (d := bs s) (s := bs more) (by rw [bs_len, bs_len]; have := HL1.out; have := HL2.out; omega) (by decide +kernel) 420 (by decide +kernel) (bs s ++ bs more) rfl hr
      have q := (HF3.out.heap g).trans HQ3.out
      have a0 : w7.cell? ⟨w3.heap.size, 0, none⟩ = some (.int .i64 5) := cell_of q 0
      have a1 : w7.cell? ⟨w3.heap.size, 1, none⟩ = some (.int .i64 5) := cell_of q 1
      have a2 : w7.cell? ⟨w3.heap.size, 2, none⟩ = some (.int .i64 5) := cell_of q 2
      have a3 : w7.cell? ⟨w3.heap.size, 3, none⟩ = some (.int .i64 5) := cell_of q 3
      have a4 : w7.cell? ⟨w3.heap.size, 4, none⟩ = some (.int .i64 5) := cell_of q 4
      have HF4 := Lib.hid (HF3.out.mv g)
      have HQ4 := Lib.hid q
      have H5 := Lib.hid h2
      clear hst hr h2 g q
      go_wp2_with fail
      refine (walkFind_any H5.out.tre 1 (whoC 5 5) ⟨#[47, 98]⟩ (k := 2) (r := 0) lk_find1).mono ?_
      rintro e w8 ⟨he, hb⟩
      replace he : e = .returned (.tuple #[.int .i64 2, .int .i64 0]) := he
      subst he
      clear a0 a1 a2 a3 a4
      have q := (HF4.out.below hb |> fun _ => hb.block _ HF4.out.1).trans HQ4.out
      have a0 : w8.cell? ⟨w3.heap.size, 0, none⟩ = some (.int .i64 5) := cell_of q 0
      have a1 : w8.cell? ⟨w3.heap.size, 1, none⟩ = some (.int .i64 5) := cell_of q 1
      have a2 : w8.cell? ⟨w3.heap.size, 2, none⟩ = some (.int .i64 5) := cell_of q 2
      have a3 : w8.cell? ⟨w3.heap.size, 3, none⟩ = some (.int .i64 5) := cell_of q 3
      have a4 : w8.cell? ⟨w3.heap.size, 4, none⟩ = some (.int .i64 5) := cell_of q 4
      have HF5 := Lib.hid (HF4.out.below hb)
      have HQ5 := Lib.hid q
      have H6 := Lib.hid (H5.out.below hb)
      clear hb q
      obtain ⟨z, hz⟩ : ∃ z : Int, z = (((bs s ++ bs more).length : Nat) : Int) := ⟨_, rfl⟩
      have HZ := Lib.hid hz
      clear hz
      go_wp2_with fail
      refine (stat_any H6.out.tre 2).mono ?_
      rintro e w9 ⟨he, hb⟩
      replace he : e = .returned (.tuple #[.agg #[.int .i64 2, .int .i64 0, .int .i64 420, .int .i64 5, .int .i64 5, .int .i64 2, .int .i64 z, .int .i64 0], .bool true]) := he.trans (by rw [show (2 : Int).toNat = 2 from rfl, lk_stat, HZ.out]; rfl)
      subst he
      clear a0 a1 a2 a3 a4
      have q := (HF5.out.below hb |> fun _ => hb.block _ HF5.out.1).trans HQ5.out
      have a0 : w9.cell? ⟨w3.heap.size, 0, none⟩ = some (.int .i64 5) := cell_of q 0
      have a1 : w9.cell? ⟨w3.heap.size, 1, none⟩ = some (.int .i64 5) := cell_of q 1
      have a2 : w9.cell? ⟨w3.heap.size, 2, none⟩ = some (.int .i64 5) := cell_of q 2
      have a3 : w9.cell? ⟨w3.heap.size, 3, none⟩ = some (.int .i64 5) := cell_of q 3
      have a4 : w9.cell? ⟨w3.heap.size, 4, none⟩ = some (.int .i64 5) := cell_of q 4
      have HF6 := Lib.hid (HF5.out.below hb)
      have HQ6 := Lib.hid q
      have H7 := Lib.hid (H6.out.below hb)
      clear hb q
      have x2 := alloc_heap w9 (.cells #[.int .i64 2, .int .i64 0, .int .i64 420, .int .i64 5, .int .i64 5, .int .i64 2, .int .i64 z, .int .i64 0] 35)
      have HX2 := Lib.hid x2
      have lt9 : w3.heap.size < w9.heap.size := HF6.out.1
      have HF7 := Lib.hid (HF6.out.below ((Below.refl _ _).alloc (Nat.le_refl _) (.cells #[.int .i64 2, .int .i64 0, .int .i64 420, .int .i64 5, .int .i64 5, .int .i64 2, .int .i64 z, .int .i64 0] 35)))
      have HQ7 := Lib.hid ((alloc_heap_old w9 (.cells #[.int .i64 2, .int .i64 0, .int .i64 420, .int .i64 5, .int .i64 5, .int .i64 2, .int .i64 z, .int .i64 0] 35) HF6.out.1).trans HQ6.out)
      have H8 := Lib.hid (H7.out.alloc (.cells #[.int .i64 2, .int .i64 0, .int .i64 420, .int .i64 5, .int .i64 5, .int .i64 2, .int .i64 z, .int .i64 0] 35))
      have HY0 : Hid (Fr (w9.alloc (.cells #[.int .i64 2, .int .i64 0, .int .i64 420, .int .i64 5, .int .i64 5, .int .i64 2, .int .i64 z, .int .i64 0] 35)) t _ w9.heap.size) := Lib.hid ⟨lt_of_heap x2, fun hf => by have := H7.out.tre.rep.foot_lt hf; omega⟩
      clear x2
      go_wp2_with fail
      refine (walkRemove_any H8.out.tre 1 (whoC 5 5) _ _).mono ?_
      rintro e w10 ⟨r, rfl, hst⟩
      obtain ⟨S10, T10, h2, hr, g⟩ := H8.out.stp hst fun T' h => h.sound H8.out.snd
      clear a0 a1 a2 a3 a4 lt9
      obtain ⟨rfl, rfl⟩ := lk_remove hr
      have x2 := (HY0.out.heap g).trans HX2.out
      have X2 := Lib.hid x2
      have HY1 := Lib.hid (HY0.out.mv g)
      clear x2
      have q := (HF7.out.heap g).trans HQ7.out
      have a0 : w10.cell? ⟨w3.heap.size, 0, none⟩ = some (.int .i64 5) := cell_of q 0
      have a1 : w10.cell? ⟨w3.heap.size, 1, none⟩ = some (.int .i64 5) := cell_of q 1
      have a2 : w10.cell? ⟨w3.heap.size, 2, none⟩ = some (.int .i64 5) := cell_of q 2
      have a3 : w10.cell? ⟨w3.heap.size, 3, none⟩ = some (.int .i64 5) := cell_of q 3
      have a4 : w10.cell? ⟨w3.heap.size, 4, none⟩ = some (.int .i64 5) := cell_of q 4
      have HF8 := Lib.hid (HF7.out.mv g)
      have HQ8 := Lib.hid q
      have H9 := Lib.hid h2
      clear hst hr h2 g q
      go_wp2_with fail
      refine (walkFind_any H9.out.tre 1 (whoC 5 5) ⟨#[97]⟩ (k := 0) (r := 3) lk_find2).mono ?_
      rintro e w11 ⟨he, hb⟩
      replace he : e = .returned (.tuple #[.int .i64 0, .int .i64 3]) := he
      subst he
      clear a0 a1 a2 a3 a4
      have x3 := (hb.block _ HY1.out.1).trans X2.out
      have X3 := Lib.hid x3
      have HY2 := Lib.hid (HY1.out.below hb)
      clear x3
      have q := (HF8.out.below hb |> fun _ => hb.block _ HF8.out.1).trans HQ8.out
      have a0 : w11.cell? ⟨w3.heap.size, 0, none⟩ = some (.int .i64 5) := cell_of q 0
      have a1 : w11.cell? ⟨w3.heap.size, 1, none⟩ = some (.int .i64 5) := cell_of q 1
      have a2 : w11.cell? ⟨w3.heap.size, 2, none⟩ = some (.int .i64 5) := cell_of q 2
      have a3 : w11.cell? ⟨w3.heap.size, 3, none⟩ = some (.int .i64 5) := cell_of q 3
      have a4 : w11.cell? ⟨w3.heap.size, 4, none⟩ = some (.int .i64 5) := cell_of q 4
      have HF9 := Lib.hid (HF8.out.below hb)
      have HQ9 := Lib.hid q
      have H10 := Lib.hid (H9.out.below hb)
      clear hb q
      go_wp2_with fail
      refine (walkFind_any H10.out.tre 1 (whoC 5 5) ⟨#[98]⟩ (k := 2) (r := 0) lk_find3).mono ?_
      rintro e w12 ⟨he, hb⟩
      replace he : e = .returned (.tuple #[.int .i64 2, .int .i64 0]) := he
      subst he
      clear a0 a1 a2 a3 a4
      have x4 := (hb.block _ HY2.out.1).trans X3.out
      have l2 : w12.cell? ⟨w9.heap.size, 2, none⟩ = some (.int .i64 420) := cell_of x4 2
      have l5 : w12.cell? ⟨w9.heap.size, 5, none⟩ = some (.int .i64 2) := cell_of x4 5
      clear x4
      have q := (HF9.out.below hb |> fun _ => hb.block _ HF9.out.1).trans HQ9.out
      have a0 : w12.cell? ⟨w3.heap.size, 0, none⟩ = some (.int .i64 5) := cell_of q 0
      have a1 : w12.cell? ⟨w3.heap.size, 1, none⟩ = some (.int .i64 5) := cell_of q 1
      have a2 : w12.cell? ⟨w3.heap.size, 2, none⟩ = some (.int .i64 5) := cell_of q 2
      have a3 : w12.cell? ⟨w3.heap.size, 3, none⟩ = some (.int .i64 5) := cell_of q 3
      have a4 : w12.cell? ⟨w3.heap.size, 4, none⟩ = some (.int .i64 5) := cell_of q 4
      have HF10 := Lib.hid (HF9.out.below hb)
      have HQ10 := Lib.hid q
      have H11 := Lib.hid (H10.out.below hb)
      clear hb q
      clear a0 a1 a2 a3 a4
      go_wp2_with fail
      refine (data_any H11.out.tre 2).mono ?_
      rintro e w13 ⟨he, rfl⟩
      replace he : e = .returned (.string (s ++ more)) := he.trans (by rw [show (2 : Int).toNat = 2 from rfl, lk_data, tx_app])
      subst he
      go_wp2
      go_ret
      exact ⟨rfl, HB0.out.trans (H11.out.own.below.mono HB0.out.size)⟩
    · have g1 : (s.size : Int) ≤ 2000 := by omega
      have g2 : (2000 : Int) < more.size := by omega
      clear h1 h2 hs hm
      go_enter Try.func4, Try.ntmps4
      go_wp2_with fail
      refine (shown7_any _).mono ?_
      rintro e w1 ⟨rfl, hb⟩
      have HB0 := Lib.hid hb
      clear hb
      go_wp2_with fail
      refine (new_ok _ _ _ _ (by decide +kernel)).mono ?_
      rintro e w2 ⟨t, S0, rfl, h0⟩
      have H0 := Lib.hid h0
      clear h0
      go_wp2_with fail
      refine (who_any _ _ _).mono ?_
      rintro e w3 ⟨rfl, hb⟩
      have H1 := Lib.hid ((H0.out.below hb).alloc (.cells #[.int .i64 5, .int .i64 5, .int .i64 5, .int .i64 5, .int .i64 5] 27))
      clear hb
      unfold cred whoC
      dsimp only
      go_wp2
      go_ret
      exact ⟨rfl, HB0.out.trans (H1.out.own.below.mono HB0.out.size)⟩
  · have g1 : (2000 : Int) < s.size := by omega
    clear h1 hs hm
    go_enter Try.func4, Try.ntmps4
    go_wp2_with fail
    refine (shown7_any _).mono ?_
    rintro e w1 ⟨rfl, hb⟩
    have HB0 := Lib.hid hb
    clear hb
    go_wp2_with fail
    refine (new_ok _ _ _ _ (by decide +kernel)).mono ?_
    rintro e w2 ⟨t, S0, rfl, h0⟩
    have H0 := Lib.hid h0
    clear h0
    go_wp2_with fail
    refine (who_any _ _ _).mono ?_
    rintro e w3 ⟨rfl, hb⟩
    have H1 := Lib.hid ((H0.out.below hb).alloc (.cells #[.int .i64 5, .int .i64 5, .int .i64 5, .int .i64 5, .int .i64 5] 27))
    clear hb
    unfold cred whoC
    dsimp only
    go_wp2
    go_ret
    exact ⟨rfl, HB0.out.trans (H1.out.own.below.mono HB0.out.size)⟩
end Go.Proofs.Ytafonmnfeibaiaa
namespace Go.Proofs.Ytafonmnfeibaiaa.walkLinks
open Go.ChangeShapes Go.WideShapes Go.ChangeAt Go.RowKit
open Go.ChangeMaps (open_string shut_string)
set_option linter.unusedVariables false

theorem own : ownKnob Try.prog.godebug = none := by kernel_rfl
theorem laidOut : laidOutB Try.prog = true := by kernel_rfl

set_option maxRecDepth 100000 in
theorem lifted (os : Os) (started : os.Started) (H : Type) (enc : TypeId × Value → H) :
    ReturnsInHanded {} Try.checked os 4 .any (Rows.walkLinksSpec.pre6 enc Try.prog Try.f4 Rows.walkLinksRow.domain false) (Rows.walkLinksSpec.post enc Try.prog Try.f4 false true false false) := by
  refine returnsInHanded_of_change (C := Try.checked) own started (by kernel_rfl) Try.func4
    (ChangeSpec.witness6 (enc := enc) (C := Try.checked) false ⟨#[], #[.string ByteArray.empty, .string ByteArray.empty], []⟩ 8 (by kernel_rfl) (by kernel_rfl) (by kernel_rfl) (by kernel_rfl)) ?_
  intro W base args ds gs before hval0 hW hcnd _
  have hval : ∀ (j : Nat) t v, Try.f4.params[j]? = some t → args[j]? = some v → Value.okWide Try.prog W .any base t v := hval0
  have hW' := hW
  obtain ⟨p, q, hA0, hV, rfl, hfz, hnd⟩ := hW
  have hA : DataW.TrodAll enc Try.prog W 0 (fun _ => true) true Try.f4.params.toList args.toList ds p := hA0
  rw [Try.params4] at hA hval
  obtain ⟨v0, vs0, d0, ds0, p0, q0, hargs, rfl, rfl, h0, r0⟩ := trodAll_cons hA
  obtain ⟨v1, vs1, d1, ds1, p1, q1, rfl, rfl, rfl, h1, r1⟩ := trodAll_cons r0
  obtain ⟨rfl, rfl, rfl⟩ := trodAll_nil r1
  obtain rfl : args = #[v0, v1] := by cases args; simp_all
  obtain ⟨rfl, rfl⟩ := trodVars_none hV
  obtain ⟨a0, rfl, rfl, rfl, w0⟩ := open_string Try.underlying9 (hval 0 9 v0 rfl rfl) h0
  obtain ⟨a1, rfl, rfl, rfl, w1⟩ := open_string Try.underlying9 (hval 1 9 v1 rfl rfl) h1
  clear hA0 hval0
  refine (links_law a0 a1 W w0 w1).mono fun e W' ⟨he, bel⟩ => ?_
  subst he
  exact ⟨_, rfl, _, _, _, [], _, [], hW', trodAll_mk1 (shut_bool Try.underlying4 _), (trodAll_cons_mk (shut_string Try.underlying9 w0) (trodAll_cons_mk (shut_string Try.underlying9 w1) trodAll_mk0)), rfl, bel.frame _, fun h => by cases h⟩

theorem over : Rows.walkLinksRow.holds Try.pinned (OpenSpec.ofChange Rows.walkLinksSpec) :=
  OpenClaim.holds_of_wide 4 Try.f4 rfl rfl rfl rfl rfl rfl rfl ⟨rfl, rfl, rfl, rfl, rfl⟩ rfl rfl rfl rfl rfl (by kernel_rfl) Try.func4 (by kernel_rfl)
    (of_decide_eq_true (by kernel_rfl)) (by unfold Func.isWrapper; first | (rw [if_pos (by decide +kernel)]; kernel_rfl) | (rw [if_neg (by decide +kernel)]; exact ⟨rfl, rfl⟩))
    (fun os started H enc _ => lifted os started H enc)

/-- The statement. -/
theorem proved : Rows.WalkLinksSaid :=
  over
#print axioms proved
end Go.Proofs.Ytafonmnfeibaiaa.walkLinks
