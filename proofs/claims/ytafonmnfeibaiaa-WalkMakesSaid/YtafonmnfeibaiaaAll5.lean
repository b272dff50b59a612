/-
  It is proved that WalkMakes returns true for every input: what somebody makes is theirs, and is found by its path, and by nobody else below a mode without rights for others.
  Conditions: none beyond the statement's own (the reading of the arguments; internal/bytealg.MaxLen is named, not read).
-/
import Derived.Test.YtafonmnfeibaiaaAll4
import Derived.Deep.Cut
import Derived.Test.YtafonmnfeibaiaaAll0
import Derived.Test.YtafonmnfeibaiaaAll1
import Derived.Test.YtafonmnfeibaiaaAll2
import Derived.Lib.IndexAny
import Derived.Deep.LoopGhost
import Derived.Test.YtafonmnfeibaiaaRows
import Derived.WalkKit
import Derived.ProofKit
import Derived.OpenShut
import Derived.ShutString
import Derived.ChangeOld
import Derived.SliceStrings
import Derived.Below
namespace Go.Proofs.Ytafonmnfeibaiaa
open Go.RowKit

set_option maxRecDepth 100000 in
set_option maxHeartbeats 8000000 in
theorem wopen_dir {w : World} {t : Nat} {S : Tab} {T : IT.Tr} (h : Tre w t S T) (hh : HB T 999999) (cwd : Int) (c : Cr) (s : ByteArray) (o : Ho) (ho : openB o = true) (hmk : o.make = true) {k j : Nat} {nm : IT.Bytes} {m q : IT.Nd} (he : entryT T c cwd (bs s) = .ok ⟨k, nm, true, some j⟩) (hm : T k = some m) (hq : T j = some q) (hal : o.alone = false) (hk : q.kind = 1) :
    Calls Try.prog 15 #[.pointer (some ⟨t, 0, none⟩), .int .i64 cwd, cred c, .string s, howV o] w fun e w' => ∃ (i : Nat) (r : Int), e = .returned (.tuple #[.int .i64 i, .int .i64 r]) ∧ Stp w t S (fun T' => isOpen T c cwd (bs s) o i r T') w' := by
  have H := Lib.hid h
  have HH := Lib.hid hh
  have HO := Lib.hid ho
  have HE := Lib.hid he
  obtain ⟨want, make, alone, empty, fin, mode⟩ := o
  dsimp only at hmk
  subst hmk
  have h123 : (bits BinOp.andNot .i64 want 6 == 0) = true ∧ (want == 0) = false ∧ Md.rightB mode = true := by
    unfold openB at ho
    simpa using ho
  obtain ⟨h1, h2, h3⟩ := h123
  have e1 : (bits BinOp.andNot .i64 want 6 != 0) = false := by rw [bne, h1]; rfl
  have HR : Hid (∀ W', Calls Try.prog 36 #[.int .i64 mode] W' fun e w' => e = .returned (.bool true) ∧ w' = W') := Lib.hid (fun W' => by
    have := Md.right_any mode W'; rw [h3] at this; exact this)
  clear h1 h3
  obtain ⟨d0, d1, d2, d3, d4, d5, d6, d7, g0, g1, g2, g3, g4, g5, g6, g7, _, hgd, hc⟩ := wentry_some h cwd c s he hm hq
  obtain ⟨C, hC⟩ : ∃ C, C = entG d0 d1 d2 d3 d4 d5 d6 d7 (tx nm) true g0 g1 g2 g3 g4 g5 g6 g7 true := ⟨_, rfl⟩
  rw [← hC] at hc
  have HC := Lib.hid hc
  have HD := Lib.hid (infC_inj hgd)
  have HQ := Lib.hid hq
  clear hc hgd
  dsimp only at hal
  subst hal
  obtain rfl : g1 = 1 := HD.out.2.1.symm.trans hk
  have HK := Lib.hid hk
  clear hk
  have HM : Hid (∀ W', Calls Try.prog 42 #[ask t cwd c, infoV g0 1 g2 g3 g4 g5 g6 g7, .int .i64 want] W' fun e w' => e = .returned (.bool (mayN q c want)) ∧ Below W'.heap.size W' w') := Lib.hid (fun W' => by
    have hh := wmay_any t cwd c g0 1 g2 g3 g4 g5 g6 g7 want W'
    obtain ⟨e0, e1, e2, e3, e4, _, _, _⟩ := HD.out
    rw [← e2, ← e3, ← e4] at hh ⊢
    have e9 : mayN q c want = Md.mayS q.mode q.owner q.group (decide ((1 : Int) = 1)) c.eff c.eg want := by unfold mayN; rw [HK.out]
    rw [e9]
    exact hh)
  unfold ask infoV at HM
  have HL : Hid (∀ (i : Nat) (r : Int) (T' : IT.Tr), isOpened T c ⟨want, true, false, empty, fin, mode⟩ j i r T' → isOpen T c cwd (bs s) ⟨want, true, false, empty, fin, mode⟩ i r T') := Lib.hid (fun i r T' hh => by
    unfold isOpen
    rw [if_neg (by rw [HO.out]; decide), if_pos rfl, HE.out]
    dsimp only
    rw [if_neg (by decide), if_neg (fun hh => hh.2 q HQ.out HK.out)]
    exact hh)
  have HCS : Hid (C.size = 19) := Lib.hid (by rw [hC]; rfl)
  have HC1 : Hid (C.all (·.oneCell') = true) := Lib.hid (by rw [hC]; exact entG_one)
  cases hw : (bits BinOp.and .i64 want 2 != 0) with
  | false =>
    have HW := Lib.hid hw
    have HCX9 : Hid (C[9]? = some (.bool true)) := Lib.hid (by rw [hC]; rfl)
    have HCX10 : Hid (C[10]? = some (.int .i64 g0)) := Lib.hid (by rw [hC]; rfl)
    have HCX11 : Hid (C[11]? = some (.int .i64 1)) := Lib.hid (by rw [hC]; rfl)
    have HCX12 : Hid (C[12]? = some (.int .i64 g2)) := Lib.hid (by rw [hC]; rfl)
    have HCX13 : Hid (C[13]? = some (.int .i64 g3)) := Lib.hid (by rw [hC]; rfl)
    have HCX14 : Hid (C[14]? = some (.int .i64 g4)) := Lib.hid (by rw [hC]; rfl)
    have HCX15 : Hid (C[15]? = some (.int .i64 g5)) := Lib.hid (by rw [hC]; rfl)
    have HCX16 : Hid (C[16]? = some (.int .i64 g6)) := Lib.hid (by rw [hC]; rfl)
    have HCX17 : Hid (C[17]? = some (.int .i64 g7)) := Lib.hid (by rw [hC]; rfl)
    have HCX18 : Hid (C[18]? = some (.bool true)) := Lib.hid (by rw [hC]; rfl)
    clear h hh ho he hC hq hm
    unfold cred howV
    unfold ask at HC
    go_enter Try.func15, Try.ntmps15
    go_wp2_with fail
    refine (HR.out _).mono ?_
    rintro e w2 ⟨rfl, rfl⟩
    go_wp2_with fail
    refine (HC.out _ (belowA (belowA (belowA (belowA (Below.refl _ _) _) _) _) _)).mono ?_
    rintro e w3 ⟨rfl, hb⟩
    obtain ⟨_, q1, q2, q3, hlt, hbb⟩ := four_blocks hb
    have HB := Lib.hid hbb
    have hlt1 : w.heap.size + 1 < w3.heap.size := by omega
    have hlt2 : w.heap.size + 1 + 1 < w3.heap.size := by omega
    clear hb hbb HC HR
    obtain ⟨s1, s2, s3⟩ := stored_whole (w3 := w3) (Z := #[.int .i64 0, .int .i64 0, .int .i64 0, .int .i64 0, .int .i64 0, .int .i64 0, .int .i64 0, .int .i64 0, .string ⟨#[]⟩, .bool false, .int .i64 0, .int .i64 0, .int .i64 0, .int .i64 0, .int .i64 0, .int .i64 0, .int .i64 0, .int .i64 0, .bool false]) (C := C) (TY := 77) HCS.out
    have hT : (w3.alloc (.cells #[.int .i64 0, .int .i64 0, .int .i64 0, .int .i64 0, .int .i64 0, .int .i64 0, .int .i64 0, .int .i64 0, .string ⟨#[]⟩, .bool false, .int .i64 0, .int .i64 0, .int .i64 0, .int .i64 0, .int .i64 0, .int .i64 0, .int .i64 0, .int .i64 0, .bool false] 77)).there w3.heap.size 0 C.size := by rw [HCS.out]; exact there_of (alloc_heap w3 _)
    have hI : (Try.prog.info? 77).map (·.size) = some C.size := by rw [HCS.out]; rfl
    have h1C := HC1.out
    have x9 : (World.setCells (w3.alloc (.cells #[.int .i64 0, .int .i64 0, .int .i64 0, .int .i64 0, .int .i64 0, .int .i64 0, .int .i64 0, .int .i64 0, .string ⟨#[]⟩, .bool false, .int .i64 0, .int .i64 0, .int .i64 0, .int .i64 0, .int .i64 0, .int .i64 0, .int .i64 0, .int .i64 0, .bool false] 77)) w3.heap.size 0 C.toList).cell? ⟨w3.heap.size, 9, none⟩ = some (.bool true) := (cell_of s1 9).trans HCX9.out
    have x10 : (World.setCells (w3.alloc (.cells #[.int .i64 0, .int .i64 0, .int .i64 0, .int .i64 0, .int .i64 0, .int .i64 0, .int .i64 0, .int .i64 0, .string ⟨#[]⟩, .bool false, .int .i64 0, .int .i64 0, .int .i64 0, .int .i64 0, .int .i64 0, .int .i64 0, .int .i64 0, .int .i64 0, .bool false] 77)) w3.heap.size 0 C.toList).cell? ⟨w3.heap.size, 10, none⟩ = some (.int .i64 g0) := (cell_of s1 10).trans HCX10.out
    have x11 : (World.setCells (w3.alloc (.cells #[.int .i64 0, .int .i64 0, .int .i64 0, .int .i64 0, .int .i64 0, .int .i64 0, .int .i64 0, .int .i64 0, .string ⟨#[]⟩, .bool false, .int .i64 0, .int .i64 0, .int .i64 0, .int .i64 0, .int .i64 0, .int .i64 0, .int .i64 0, .int .i64 0, .bool false] 77)) w3.heap.size 0 C.toList).cell? ⟨w3.heap.size, 11, none⟩ = some (.int .i64 1) := (cell_of s1 11).trans HCX11.out
    have x12 : (World.setCells (w3.alloc (.cells #[.int .i64 0, .int .i64 0, .int .i64 0, .int .i64 0, .int .i64 0, .int .i64 0, .int .i64 0, .int .i64 0, .string ⟨#[]⟩, .bool false, .int .i64 0, .int .i64 0, .int .i64 0, .int .i64 0, .int .i64 0, .int .i64 0, .int .i64 0, .int .i64 0, .bool false] 77)) w3.heap.size 0 C.toList).cell? ⟨w3.heap.size, 12, none⟩ = some (.int .i64 g2) := (cell_of s1 12).trans HCX12.out
    have x13 : (World.setCells (w3.alloc (.cells #[.int .i64 0, .int .i64 0, .int .i64 0, .int .i64 0, .int .i64 0, .int .i64 0, .int .i64 0, .int .i64 0, .string ⟨#[]⟩, .bool false, .int .i64 0, .int .i64 0, .int .i64 0, .int .i64 0, .int .i64 0, .int .i64 0, .int .i64 0, .int .i64 0, .bool false] 77)) w3.heap.size 0 C.toList).cell? ⟨w3.heap.size, 13, none⟩ = some (.int .i64 g3) := (cell_of s1 13).trans HCX13.out
    have x14 : (World.setCells (w3.alloc (.cells #[.int .i64 0, .int .i64 0, .int .i64 0, .int .i64 0, .int .i64 0, .int .i64 0, .int .i64 0, .int .i64 0, .string ⟨#[]⟩, .bool false, .int .i64 0, .int .i64 0, .int .i64 0, .int .i64 0, .int .i64 0, .int .i64 0, .int .i64 0, .int .i64 0, .bool false] 77)) w3.heap.size 0 C.toList).cell? ⟨w3.heap.size, 14, none⟩ = some (.int .i64 g4) := (cell_of s1 14).trans HCX14.out
    have x15 : (World.setCells (w3.alloc (.cells #[.int .i64 0, .int .i64 0, .int .i64 0, .int .i64 0, .int .i64 0, .int .i64 0, .int .i64 0, .int .i64 0, .string ⟨#[]⟩, .bool false, .int .i64 0, .int .i64 0, .int .i64 0, .int .i64 0, .int .i64 0, .int .i64 0, .int .i64 0, .int .i64 0, .bool false] 77)) w3.heap.size 0 C.toList).cell? ⟨w3.heap.size, 15, none⟩ = some (.int .i64 g5) := (cell_of s1 15).trans HCX15.out
    have x16 : (World.setCells (w3.alloc (.cells #[.int .i64 0, .int .i64 0, .int .i64 0, .int .i64 0, .int .i64 0, .int .i64 0, .int .i64 0, .int .i64 0, .string ⟨#[]⟩, .bool false, .int .i64 0, .int .i64 0, .int .i64 0, .int .i64 0, .int .i64 0, .int .i64 0, .int .i64 0, .int .i64 0, .bool false] 77)) w3.heap.size 0 C.toList).cell? ⟨w3.heap.size, 16, none⟩ = some (.int .i64 g6) := (cell_of s1 16).trans HCX16.out
    have x17 : (World.setCells (w3.alloc (.cells #[.int .i64 0, .int .i64 0, .int .i64 0, .int .i64 0, .int .i64 0, .int .i64 0, .int .i64 0, .int .i64 0, .string ⟨#[]⟩, .bool false, .int .i64 0, .int .i64 0, .int .i64 0, .int .i64 0, .int .i64 0, .int .i64 0, .int .i64 0, .int .i64 0, .bool false] 77)) w3.heap.size 0 C.toList).cell? ⟨w3.heap.size, 17, none⟩ = some (.int .i64 g7) := (cell_of s1 17).trans HCX17.out
    have x18 : (World.setCells (w3.alloc (.cells #[.int .i64 0, .int .i64 0, .int .i64 0, .int .i64 0, .int .i64 0, .int .i64 0, .int .i64 0, .int .i64 0, .string ⟨#[]⟩, .bool false, .int .i64 0, .int .i64 0, .int .i64 0, .int .i64 0, .int .i64 0, .int .i64 0, .int .i64 0, .int .i64 0, .bool false] 77)) w3.heap.size 0 C.toList).cell? ⟨w3.heap.size, 18, none⟩ = some (.bool true) := (cell_of s1 18).trans HCX18.out
    have huB := (s2.block _ hlt1).trans q1
    have huL : w.heap.size + 1 < (World.setCells (w3.alloc (.cells #[.int .i64 0, .int .i64 0, .int .i64 0, .int .i64 0, .int .i64 0, .int .i64 0, .int .i64 0, .int .i64 0, .string ⟨#[]⟩, .bool false, .int .i64 0, .int .i64 0, .int .i64 0, .int .i64 0, .int .i64 0, .int .i64 0, .int .i64 0, .int .i64 0, .bool false] 77)) w3.heap.size 0 C.toList).heap.size := by have := hlt1; omega
    have u0 : (World.setCells (w3.alloc (.cells #[.int .i64 0, .int .i64 0, .int .i64 0, .int .i64 0, .int .i64 0, .int .i64 0, .int .i64 0, .int .i64 0, .string ⟨#[]⟩, .bool false, .int .i64 0, .int .i64 0, .int .i64 0, .int .i64 0, .int .i64 0, .int .i64 0, .int .i64 0, .int .i64 0, .bool false] 77)) w3.heap.size 0 C.toList).cell? ⟨w.heap.size + 1, 0, none⟩ = some (.int .i64 want) := cell_of huB 0
    have u2 : (World.setCells (w3.alloc (.cells #[.int .i64 0, .int .i64 0, .int .i64 0, .int .i64 0, .int .i64 0, .int .i64 0, .int .i64 0, .int .i64 0, .string ⟨#[]⟩, .bool false, .int .i64 0, .int .i64 0, .int .i64 0, .int .i64 0, .int .i64 0, .int .i64 0, .int .i64 0, .int .i64 0, .bool false] 77)) w3.heap.size 0 C.toList).cell? ⟨w.heap.size + 1, 2, none⟩ = some (.bool false) := cell_of huB 2
    have u3 : (World.setCells (w3.alloc (.cells #[.int .i64 0, .int .i64 0, .int .i64 0, .int .i64 0, .int .i64 0, .int .i64 0, .int .i64 0, .int .i64 0, .string ⟨#[]⟩, .bool false, .int .i64 0, .int .i64 0, .int .i64 0, .int .i64 0, .int .i64 0, .int .i64 0, .int .i64 0, .int .i64 0, .bool false] 77)) w3.heap.size 0 C.toList).cell? ⟨w.heap.size + 1, 3, none⟩ = some (.bool empty) := cell_of huB 3
    have haB := (s2.block _ hlt2).trans q2
    have haL : w.heap.size + 1 + 1 < (World.setCells (w3.alloc (.cells #[.int .i64 0, .int .i64 0, .int .i64 0, .int .i64 0, .int .i64 0, .int .i64 0, .int .i64 0, .int .i64 0, .string ⟨#[]⟩, .bool false, .int .i64 0, .int .i64 0, .int .i64 0, .int .i64 0, .int .i64 0, .int .i64 0, .int .i64 0, .int .i64 0, .bool false] 77)) w3.heap.size 0 C.toList).heap.size := by have := hlt2; omega
    have a0 : (World.setCells (w3.alloc (.cells #[.int .i64 0, .int .i64 0, .int .i64 0, .int .i64 0, .int .i64 0, .int .i64 0, .int .i64 0, .int .i64 0, .string ⟨#[]⟩, .bool false, .int .i64 0, .int .i64 0, .int .i64 0, .int .i64 0, .int .i64 0, .int .i64 0, .int .i64 0, .int .i64 0, .bool false] 77)) w3.heap.size 0 C.toList).cell? ⟨w.heap.size + 1 + 1, 0, none⟩ = some (.pointer (some ⟨t, 0, none⟩)) := cell_of haB 0
    have a1 : (World.setCells (w3.alloc (.cells #[.int .i64 0, .int .i64 0, .int .i64 0, .int .i64 0, .int .i64 0, .int .i64 0, .int .i64 0, .int .i64 0, .string ⟨#[]⟩, .bool false, .int .i64 0, .int .i64 0, .int .i64 0, .int .i64 0, .int .i64 0, .int .i64 0, .int .i64 0, .int .i64 0, .bool false] 77)) w3.heap.size 0 C.toList).cell? ⟨w.heap.size + 1 + 1, 1, none⟩ = some (.int .i64 cwd) := cell_of haB 1
    have a2 : (World.setCells (w3.alloc (.cells #[.int .i64 0, .int .i64 0, .int .i64 0, .int .i64 0, .int .i64 0, .int .i64 0, .int .i64 0, .int .i64 0, .string ⟨#[]⟩, .bool false, .int .i64 0, .int .i64 0, .int .i64 0, .int .i64 0, .int .i64 0, .int .i64 0, .int .i64 0, .int .i64 0, .bool false] 77)) w3.heap.size 0 C.toList).cell? ⟨w.heap.size + 1 + 1, 2, none⟩ = some (.int .i64 c.real) := cell_of haB 2
    have a3 : (World.setCells (w3.alloc (.cells #[.int .i64 0, .int .i64 0, .int .i64 0, .int .i64 0, .int .i64 0, .int .i64 0, .int .i64 0, .int .i64 0, .string ⟨#[]⟩, .bool false, .int .i64 0, .int .i64 0, .int .i64 0, .int .i64 0, .int .i64 0, .int .i64 0, .int .i64 0, .int .i64 0, .bool false] 77)) w3.heap.size 0 C.toList).cell? ⟨w.heap.size + 1 + 1, 3, none⟩ = some (.int .i64 c.eff) := cell_of haB 3
    have a4 : (World.setCells (w3.alloc (.cells #[.int .i64 0, .int .i64 0, .int .i64 0, .int .i64 0, .int .i64 0, .int .i64 0, .int .i64 0, .int .i64 0, .string ⟨#[]⟩, .bool false, .int .i64 0, .int .i64 0, .int .i64 0, .int .i64 0, .int .i64 0, .int .i64 0, .int .i64 0, .int .i64 0, .bool false] 77)) w3.heap.size 0 C.toList).cell? ⟨w.heap.size + 1 + 1, 4, none⟩ = some (.int .i64 c.saved) := cell_of haB 4
    have a5 : (World.setCells (w3.alloc (.cells #[.int .i64 0, .int .i64 0, .int .i64 0, .int .i64 0, .int .i64 0, .int .i64 0, .int .i64 0, .int .i64 0, .string ⟨#[]⟩, .bool false, .int .i64 0, .int .i64 0, .int .i64 0, .int .i64 0, .int .i64 0, .int .i64 0, .int .i64 0, .int .i64 0, .bool false] 77)) w3.heap.size 0 C.toList).cell? ⟨w.heap.size + 1 + 1, 5, none⟩ = some (.int .i64 c.group) := cell_of haB 5
    have a6 : (World.setCells (w3.alloc (.cells #[.int .i64 0, .int .i64 0, .int .i64 0, .int .i64 0, .int .i64 0, .int .i64 0, .int .i64 0, .int .i64 0, .string ⟨#[]⟩, .bool false, .int .i64 0, .int .i64 0, .int .i64 0, .int .i64 0, .int .i64 0, .int .i64 0, .int .i64 0, .int .i64 0, .bool false] 77)) w3.heap.size 0 C.toList).cell? ⟨w.heap.size + 1 + 1, 6, none⟩ = some (.int .i64 c.eg) := cell_of haB 6
    have hpB := (s2.block _ hlt).trans q3
    have hpL : w.heap.size + 1 + 1 + 1 < (World.setCells (w3.alloc (.cells #[.int .i64 0, .int .i64 0, .int .i64 0, .int .i64 0, .int .i64 0, .int .i64 0, .int .i64 0, .int .i64 0, .string ⟨#[]⟩, .bool false, .int .i64 0, .int .i64 0, .int .i64 0, .int .i64 0, .int .i64 0, .int .i64 0, .int .i64 0, .int .i64 0, .bool false] 77)) w3.heap.size 0 C.toList).heap.size := by have := hlt; omega
    have p0 : (World.setCells (w3.alloc (.cells #[.int .i64 0, .int .i64 0, .int .i64 0, .int .i64 0, .int .i64 0, .int .i64 0, .int .i64 0, .int .i64 0, .string ⟨#[]⟩, .bool false, .int .i64 0, .int .i64 0, .int .i64 0, .int .i64 0, .int .i64 0, .int .i64 0, .int .i64 0, .int .i64 0, .bool false] 77)) w3.heap.size 0 C.toList).cell? ⟨w.heap.size + 1 + 1 + 1, 0, none⟩ = some (.int .i64 0) := cell_of hpB 0
    have p1 : (World.setCells (w3.alloc (.cells #[.int .i64 0, .int .i64 0, .int .i64 0, .int .i64 0, .int .i64 0, .int .i64 0, .int .i64 0, .int .i64 0, .string ⟨#[]⟩, .bool false, .int .i64 0, .int .i64 0, .int .i64 0, .int .i64 0, .int .i64 0, .int .i64 0, .int .i64 0, .int .i64 0, .bool false] 77)) w3.heap.size 0 C.toList).cell? ⟨w.heap.size + 1 + 1 + 1, 1, none⟩ = some (.int .i64 0) := cell_of hpB 1
    have p2 : (World.setCells (w3.alloc (.cells #[.int .i64 0, .int .i64 0, .int .i64 0, .int .i64 0, .int .i64 0, .int .i64 0, .int .i64 0, .int .i64 0, .string ⟨#[]⟩, .bool false, .int .i64 0, .int .i64 0, .int .i64 0, .int .i64 0, .int .i64 0, .int .i64 0, .int .i64 0, .int .i64 0, .bool false] 77)) w3.heap.size 0 C.toList).cell? ⟨w.heap.size + 1 + 1 + 1, 2, none⟩ = some (.int .i64 0) := cell_of hpB 2
    have p3 : (World.setCells (w3.alloc (.cells #[.int .i64 0, .int .i64 0, .int .i64 0, .int .i64 0, .int .i64 0, .int .i64 0, .int .i64 0, .int .i64 0, .string ⟨#[]⟩, .bool false, .int .i64 0, .int .i64 0, .int .i64 0, .int .i64 0, .int .i64 0, .int .i64 0, .int .i64 0, .int .i64 0, .bool false] 77)) w3.heap.size 0 C.toList).cell? ⟨w.heap.size + 1 + 1 + 1, 3, none⟩ = some (.int .i64 0) := cell_of hpB 3
    have p4 : (World.setCells (w3.alloc (.cells #[.int .i64 0, .int .i64 0, .int .i64 0, .int .i64 0, .int .i64 0, .int .i64 0, .int .i64 0, .int .i64 0, .string ⟨#[]⟩, .bool false, .int .i64 0, .int .i64 0, .int .i64 0, .int .i64 0, .int .i64 0, .int .i64 0, .int .i64 0, .int .i64 0, .bool false] 77)) w3.heap.size 0 C.toList).cell? ⟨w.heap.size + 1 + 1 + 1, 4, none⟩ = some (.int .i64 0) := cell_of hpB 4
    have p5 : (World.setCells (w3.alloc (.cells #[.int .i64 0, .int .i64 0, .int .i64 0, .int .i64 0, .int .i64 0, .int .i64 0, .int .i64 0, .int .i64 0, .string ⟨#[]⟩, .bool false, .int .i64 0, .int .i64 0, .int .i64 0, .int .i64 0, .int .i64 0, .int .i64 0, .int .i64 0, .int .i64 0, .bool false] 77)) w3.heap.size 0 C.toList).cell? ⟨w.heap.size + 1 + 1 + 1, 5, none⟩ = some (.int .i64 0) := cell_of hpB 5
    have p6 : (World.setCells (w3.alloc (.cells #[.int .i64 0, .int .i64 0, .int .i64 0, .int .i64 0, .int .i64 0, .int .i64 0, .int .i64 0, .int .i64 0, .string ⟨#[]⟩, .bool false, .int .i64 0, .int .i64 0, .int .i64 0, .int .i64 0, .int .i64 0, .int .i64 0, .int .i64 0, .int .i64 0, .bool false] 77)) w3.heap.size 0 C.toList).cell? ⟨w.heap.size + 1 + 1 + 1, 6, none⟩ = some (.int .i64 0) := cell_of hpB 6
    have p7 : (World.setCells (w3.alloc (.cells #[.int .i64 0, .int .i64 0, .int .i64 0, .int .i64 0, .int .i64 0, .int .i64 0, .int .i64 0, .int .i64 0, .string ⟨#[]⟩, .bool false, .int .i64 0, .int .i64 0, .int .i64 0, .int .i64 0, .int .i64 0, .int .i64 0, .int .i64 0, .int .i64 0, .bool false] 77)) w3.heap.size 0 C.toList).cell? ⟨w.heap.size + 1 + 1 + 1, 7, none⟩ = some (.int .i64 0) := cell_of hpB 7
    have s5 : ∀ i, (World.setCells (w3.alloc (.cells #[.int .i64 0, .int .i64 0, .int .i64 0, .int .i64 0, .int .i64 0, .int .i64 0, .int .i64 0, .int .i64 0, .string ⟨#[]⟩, .bool false, .int .i64 0, .int .i64 0, .int .i64 0, .int .i64 0, .int .i64 0, .int .i64 0, .int .i64 0, .int .i64 0, .bool false] 77)) w3.heap.size 0 C.toList).frozen? ⟨w.heap.size + 1 + 1 + 1, i, none⟩ = false := fun i => frozen_of hpB i
    have z0 : (World.setCells (w3.alloc (.cells #[.int .i64 0, .int .i64 0, .int .i64 0, .int .i64 0, .int .i64 0, .int .i64 0, .int .i64 0, .int .i64 0, .string ⟨#[]⟩, .bool false, .int .i64 0, .int .i64 0, .int .i64 0, .int .i64 0, .int .i64 0, .int .i64 0, .int .i64 0, .int .i64 0, .bool false] 77)) w3.heap.size 0 C.toList).frozen? ⟨w.heap.size + 1 + 1 + 1, 0, none⟩ = false := s5 0
    have z1 : (World.setCells (w3.alloc (.cells #[.int .i64 0, .int .i64 0, .int .i64 0, .int .i64 0, .int .i64 0, .int .i64 0, .int .i64 0, .int .i64 0, .string ⟨#[]⟩, .bool false, .int .i64 0, .int .i64 0, .int .i64 0, .int .i64 0, .int .i64 0, .int .i64 0, .int .i64 0, .int .i64 0, .bool false] 77)) w3.heap.size 0 C.toList).frozen? ⟨w.heap.size + 1 + 1 + 1, 1, none⟩ = false := s5 1
    have z2 : (World.setCells (w3.alloc (.cells #[.int .i64 0, .int .i64 0, .int .i64 0, .int .i64 0, .int .i64 0, .int .i64 0, .int .i64 0, .int .i64 0, .string ⟨#[]⟩, .bool false, .int .i64 0, .int .i64 0, .int .i64 0, .int .i64 0, .int .i64 0, .int .i64 0, .int .i64 0, .int .i64 0, .bool false] 77)) w3.heap.size 0 C.toList).frozen? ⟨w.heap.size + 1 + 1 + 1, 2, none⟩ = false := s5 2
    have z3 : (World.setCells (w3.alloc (.cells #[.int .i64 0, .int .i64 0, .int .i64 0, .int .i64 0, .int .i64 0, .int .i64 0, .int .i64 0, .int .i64 0, .string ⟨#[]⟩, .bool false, .int .i64 0, .int .i64 0, .int .i64 0, .int .i64 0, .int .i64 0, .int .i64 0, .int .i64 0, .int .i64 0, .bool false] 77)) w3.heap.size 0 C.toList).frozen? ⟨w.heap.size + 1 + 1 + 1, 3, none⟩ = false := s5 3
    have z4 : (World.setCells (w3.alloc (.cells #[.int .i64 0, .int .i64 0, .int .i64 0, .int .i64 0, .int .i64 0, .int .i64 0, .int .i64 0, .int .i64 0, .string ⟨#[]⟩, .bool false, .int .i64 0, .int .i64 0, .int .i64 0, .int .i64 0, .int .i64 0, .int .i64 0, .int .i64 0, .int .i64 0, .bool false] 77)) w3.heap.size 0 C.toList).frozen? ⟨w.heap.size + 1 + 1 + 1, 4, none⟩ = false := s5 4
    have z5 : (World.setCells (w3.alloc (.cells #[.int .i64 0, .int .i64 0, .int .i64 0, .int .i64 0, .int .i64 0, .int .i64 0, .int .i64 0, .int .i64 0, .string ⟨#[]⟩, .bool false, .int .i64 0, .int .i64 0, .int .i64 0, .int .i64 0, .int .i64 0, .int .i64 0, .int .i64 0, .int .i64 0, .bool false] 77)) w3.heap.size 0 C.toList).frozen? ⟨w.heap.size + 1 + 1 + 1, 5, none⟩ = false := s5 5
    have z6 : (World.setCells (w3.alloc (.cells #[.int .i64 0, .int .i64 0, .int .i64 0, .int .i64 0, .int .i64 0, .int .i64 0, .int .i64 0, .int .i64 0, .string ⟨#[]⟩, .bool false, .int .i64 0, .int .i64 0, .int .i64 0, .int .i64 0, .int .i64 0, .int .i64 0, .int .i64 0, .int .i64 0, .bool false] 77)) w3.heap.size 0 C.toList).frozen? ⟨w.heap.size + 1 + 1 + 1, 6, none⟩ = false := s5 6
    have z7 : (World.setCells (w3.alloc (.cells #[.int .i64 0, .int .i64 0, .int .i64 0, .int .i64 0, .int .i64 0, .int .i64 0, .int .i64 0, .int .i64 0, .string ⟨#[]⟩, .bool false, .int .i64 0, .int .i64 0, .int .i64 0, .int .i64 0, .int .i64 0, .int .i64 0, .int .i64 0, .int .i64 0, .bool false] 77)) w3.heap.size 0 C.toList).frozen? ⟨w.heap.size + 1 + 1 + 1, 7, none⟩ = false := s5 7
    clear s5
    clear q1 q2 q3
    go_upto_region 22 with (refine wpList_store_mid rfl 77 _ _ rfl w3.heap.size 0 C rfl rfl hT hI h1C ?_; generalize World.setCells (w3.alloc (.cells #[.int .i64 0, .int .i64 0, .int .i64 0, .int .i64 0, .int .i64 0, .int .i64 0, .int .i64 0, .int .i64 0, .string ⟨#[]⟩, .bool false, .int .i64 0, .int .i64 0, .int .i64 0, .int .i64 0, .int .i64 0, .int .i64 0, .int .i64 0, .int .i64 0, .bool false] 77)) w3.heap.size 0 C.toList = W5 at s1 s2 s3 x9 x10 x11 x12 x13 x14 x15 x16 x17 x18 huB huL u0 u2 u3 haB haL a0 a1 a2 a3 a4 a5 a6 hpB hpL p0 p1 p2 p3 p4 p5 p6 p7 z0 z1 z2 z3 z4 z5 z6 z7 ⊢)
    have HB3 : Hid (Below w.heap.size w W5) := Lib.hid (HB.out.trans (s2.mono HB.out.size))
    have hb4 := below_set8 (R := w.heap.size + 1 + 1 + 1) (v0 := .int .i64 g0) (v1 := .int .i64 1) (v2 := .int .i64 g2) (v3 := .int .i64 g3) (v4 := .int .i64 g4) (v5 := .int .i64 g5) (v6 := .int .i64 g6) (v7 := .int .i64 g7) HB3.out (by omega)
    have t3 := heap_set8 (v0 := .int .i64 g0) (v1 := .int .i64 1) (v2 := .int .i64 g2) (v3 := .int .i64 g3) (v4 := .int .i64 g4) (v5 := .int .i64 g5) (v6 := .int .i64 g6) (v7 := .int .i64 g7) hpB
    have t1 := (heap_set8_other (R := w.heap.size + 1 + 1 + 1) (v0 := .int .i64 g0) (v1 := .int .i64 1) (v2 := .int .i64 g2) (v3 := .int .i64 g3) (v4 := .int .i64 g4) (v5 := .int .i64 g5) (v6 := .int .i64 g6) (v7 := .int .i64 g7) (b := w.heap.size + 1) (by omega)).trans huB
    have t2 := (heap_set8_other (R := w.heap.size + 1 + 1 + 1) (v0 := .int .i64 g0) (v1 := .int .i64 1) (v2 := .int .i64 g2) (v3 := .int .i64 g3) (v4 := .int .i64 g4) (v5 := .int .i64 g5) (v6 := .int .i64 g6) (v7 := .int .i64 g7) (b := w.heap.size + 1 + 1) (by omega)).trans haB
    clear x9 x10 x11 x12 x13 x14 x15 x16 x17 x18 hT hI h1C s1 s2 s3 huB haB hpB haL hpL huL p0 z0 p1 z1 p2 z2 p3 z3 p4 z4 p5 z5 p6 z6 p7 z7 a0 a1 a2 a3 a4 a5 a6 u0 u2 u3
    generalize ((((((((W5.setCell ⟨w.heap.size + 1 + 1 + 1, 0, none⟩ (.int .i64 g0)).setCell ⟨w.heap.size + 1 + 1 + 1, 1, none⟩ (.int .i64 1)).setCell ⟨w.heap.size + 1 + 1 + 1, 2, none⟩ (.int .i64 g2)).setCell ⟨w.heap.size + 1 + 1 + 1, 3, none⟩ (.int .i64 g3)).setCell ⟨w.heap.size + 1 + 1 + 1, 4, none⟩ (.int .i64 g4)).setCell ⟨w.heap.size + 1 + 1 + 1, 5, none⟩ (.int .i64 g5)).setCell ⟨w.heap.size + 1 + 1 + 1, 6, none⟩ (.int .i64 g6)).setCell ⟨w.heap.size + 1 + 1 + 1, 7, none⟩ (.int .i64 g7)) = W6 at hb4 t3 t1 t2 ⊢
    have HB4 := Lib.hid hb4
    have y0 : W6.cell? ⟨w.heap.size + 1 + 1 + 1, 0, none⟩ = some (.int .i64 g0) := cell_of t3 0
    have y1 : W6.cell? ⟨w.heap.size + 1 + 1 + 1, 1, none⟩ = some (.int .i64 1) := cell_of t3 1
    have y2 : W6.cell? ⟨w.heap.size + 1 + 1 + 1, 2, none⟩ = some (.int .i64 g2) := cell_of t3 2
    have y3 : W6.cell? ⟨w.heap.size + 1 + 1 + 1, 3, none⟩ = some (.int .i64 g3) := cell_of t3 3
    have y4 : W6.cell? ⟨w.heap.size + 1 + 1 + 1, 4, none⟩ = some (.int .i64 g4) := cell_of t3 4
    have y5 : W6.cell? ⟨w.heap.size + 1 + 1 + 1, 5, none⟩ = some (.int .i64 g5) := cell_of t3 5
    have y6 : W6.cell? ⟨w.heap.size + 1 + 1 + 1, 6, none⟩ = some (.int .i64 g6) := cell_of t3 6
    have y7 : W6.cell? ⟨w.heap.size + 1 + 1 + 1, 7, none⟩ = some (.int .i64 g7) := cell_of t3 7
    have u0 : W6.cell? ⟨w.heap.size + 1, 0, none⟩ = some (.int .i64 want) := cell_of t1 0
    have u3 : W6.cell? ⟨w.heap.size + 1, 3, none⟩ = some (.bool empty) := cell_of t1 3
    have a0 : W6.cell? ⟨w.heap.size + 1 + 1, 0, none⟩ = some (.pointer (some ⟨t, 0, none⟩)) := cell_of t2 0
    have a1 : W6.cell? ⟨w.heap.size + 1 + 1, 1, none⟩ = some (.int .i64 cwd) := cell_of t2 1
    have a2 : W6.cell? ⟨w.heap.size + 1 + 1, 2, none⟩ = some (.int .i64 c.real) := cell_of t2 2
    have a3 : W6.cell? ⟨w.heap.size + 1 + 1, 3, none⟩ = some (.int .i64 c.eff) := cell_of t2 3
    have a4 : W6.cell? ⟨w.heap.size + 1 + 1, 4, none⟩ = some (.int .i64 c.saved) := cell_of t2 4
    have a5 : W6.cell? ⟨w.heap.size + 1 + 1, 5, none⟩ = some (.int .i64 c.group) := cell_of t2 5
    have a6 : W6.cell? ⟨w.heap.size + 1 + 1, 6, none⟩ = some (.int .i64 c.eg) := cell_of t2 6
    have T3 := Lib.hid t3
    have T1 := Lib.hid t1
    clear hb4 t3 t1 t2
    go_wp2_with fail
    refine (HM.out _).mono ?_
    rintro e w5 ⟨rfl, hb5⟩
    have HB5 : Hid (Below w.heap.size w w5) := Lib.hid (HB4.out.trans (hb5.mono HB4.out.size))
    have t3 := (hb5.block (w.heap.size + 1 + 1 + 1) (lt_of_heap T3.out)).trans T3.out
    have t1 := (hb5.block (w.heap.size + 1) (lt_of_heap T1.out)).trans T1.out
    clear hb5 T3 T1 y0 y1 y2 y3 y4 y5 y6 y7 u0 u3 a0 a1 a2 a3 a4 a5 a6
    cases hmy : mayN q c want with
    | false =>
      have HMY := Lib.hid hmy
      clear hmy t1 t3
      go_wp2
      go_ret2
      refine ⟨0, 4, rfl, Stp.keepB H.out HB5.out (HL.out _ _ _ ⟨q, HQ.out, ?_⟩)⟩
      rw [if_neg (fun hh => by have := HW.out.symm.trans hh.1; cases this), if_pos HMY.out]
      exact ⟨rfl, rfl, rfl⟩
    | true =>
      have HMY := Lib.hid hmy
      have y0 : w5.cell? ⟨w.heap.size + 1 + 1 + 1, 0, none⟩ = some (.int .i64 g0) := cell_of t3 0
      have T3 := Lib.hid t3
      have T1 := Lib.hid t1
      clear hmy t1 t3
      go_wp2_with fail
      refine (hold_any (H.out.mv ((Mv.refl H.out.rep).below HB5.out)) (HH.out.mono (by decide)) g0).mono ?_
      rintro e w6 ⟨b, rfl, hs⟩
      obtain ⟨S1, T1x, m1, ht1, hr1⟩ := hs.tre fun T' hT' => hT'.sound H.out.snd
      have fr3 : Fr w5 t S (w.heap.size + 1 + 1 + 1) := Fr.new H.out.rep (by omega) (lt_of_heap T3.out)
      have fr1 : Fr w5 t S (w.heap.size + 1) := Fr.new H.out.rep (by omega) (lt_of_heap T1.out)
      have z3 := (fr3.heap m1).trans T3.out
      have z1 := (fr1.heap m1).trans T1.out
      have y0 : w6.cell? ⟨w.heap.size + 1 + 1 + 1, 0, none⟩ = some (.int .i64 g0) := cell_of z3 0
      have y1 : w6.cell? ⟨w.heap.size + 1 + 1 + 1, 1, none⟩ = some (.int .i64 1) := cell_of z3 1
      have y3 : w6.cell? ⟨w.heap.size + 1, 3, none⟩ = some (.bool empty) := cell_of z1 3
      have FR3 := Lib.hid (fr3.mv m1)
      have Z3 := Lib.hid z3
      have HG1 := Lib.hid (((Mv.refl H.out.rep).below HB5.out).trans m1)
      have HT1 := Lib.hid ht1
      have HR1 : Hid (IT.isHold T j b T1x) := Lib.hid (by rw [← HD.out.1] at hr1; exact hr1)
      clear hs m1 ht1 hr1 fr3 fr1 z3 z1
      have hleaf : ∀ (T' : IT.Tr), (if empty = true ∧ (bits BinOp.and .i64 want 2 != 0) = true ∧ q.kind = 0 then ∃ r2 T2, IT.isCut T1x j r2 T2 ∧ isPlainer T2 j T' else T' = T1x) → isOpen T c cwd (bs s) ⟨want, true, false, empty, fin, mode⟩ j 0 T' := fun T' hl => by
        refine HL.out _ _ _ ⟨q, HQ.out, ?_⟩
        rw [if_neg (fun hh => by have := HW.out.symm.trans hh.1; cases this), if_neg (by rw [HMY.out]; decide)]
        exact ⟨rfl, rfl, b, T1x, HR1.out, hl⟩
      have HLF := Lib.hid hleaf
      clear hleaf
      cases empty <;>
      · go_wp2
        go_ret2
        exact ⟨j, 0, by rw [HD.out.1]; rfl, S1, T1x, HG1.out, HT1.out.ties, HLF.out _ (by rw [if_neg (fun hh => by have := HW.out.symm.trans hh.2.1; cases this)])⟩
  | true =>
    have HW := Lib.hid hw
    clear HM
    have HCX9 : Hid (C[9]? = some (.bool true)) := Lib.hid (by rw [hC]; rfl)
    have HCX10 : Hid (C[10]? = some (.int .i64 g0)) := Lib.hid (by rw [hC]; rfl)
    have HCX11 : Hid (C[11]? = some (.int .i64 1)) := Lib.hid (by rw [hC]; rfl)
    have HCX12 : Hid (C[12]? = some (.int .i64 g2)) := Lib.hid (by rw [hC]; rfl)
    have HCX13 : Hid (C[13]? = some (.int .i64 g3)) := Lib.hid (by rw [hC]; rfl)
    have HCX14 : Hid (C[14]? = some (.int .i64 g4)) := Lib.hid (by rw [hC]; rfl)
    have HCX15 : Hid (C[15]? = some (.int .i64 g5)) := Lib.hid (by rw [hC]; rfl)
    have HCX16 : Hid (C[16]? = some (.int .i64 g6)) := Lib.hid (by rw [hC]; rfl)
    have HCX17 : Hid (C[17]? = some (.int .i64 g7)) := Lib.hid (by rw [hC]; rfl)
    have HCX18 : Hid (C[18]? = some (.bool true)) := Lib.hid (by rw [hC]; rfl)
    clear h hh ho he hC hq hm
    unfold cred howV
    unfold ask at HC
    go_enter Try.func15, Try.ntmps15
    go_wp2_with fail
    refine (HR.out _).mono ?_
    rintro e w2 ⟨rfl, rfl⟩
    go_wp2_with fail
    refine (HC.out _ (belowA (belowA (belowA (belowA (Below.refl _ _) _) _) _) _)).mono ?_
    rintro e w3 ⟨rfl, hb⟩
    obtain ⟨_, q1, q2, q3, hlt, hbb⟩ := four_blocks hb
    have HB := Lib.hid hbb
    have hlt1 : w.heap.size + 1 < w3.heap.size := by omega
    have hlt2 : w.heap.size + 1 + 1 < w3.heap.size := by omega
    clear hb hbb HC HR
    obtain ⟨s1, s2, s3⟩ := stored_whole (w3 := w3) (Z := #[.int .i64 0, .int .i64 0, .int .i64 0, .int .i64 0, .int .i64 0, .int .i64 0, .int .i64 0, .int .i64 0, .string ⟨#[]⟩, .bool false, .int .i64 0, .int .i64 0, .int .i64 0, .int .i64 0, .int .i64 0, .int .i64 0, .int .i64 0, .int .i64 0, .bool false]) (C := C) (TY := 77) HCS.out
    have hT : (w3.alloc (.cells #[.int .i64 0, .int .i64 0, .int .i64 0, .int .i64 0, .int .i64 0, .int .i64 0, .int .i64 0, .int .i64 0, .string ⟨#[]⟩, .bool false, .int .i64 0, .int .i64 0, .int .i64 0, .int .i64 0, .int .i64 0, .int .i64 0, .int .i64 0, .int .i64 0, .bool false] 77)).there w3.heap.size 0 C.size := by rw [HCS.out]; exact there_of (alloc_heap w3 _)
    have hI : (Try.prog.info? 77).map (·.size) = some C.size := by rw [HCS.out]; rfl
    have h1C := HC1.out
    have x9 : (World.setCells (w3.alloc (.cells #[.int .i64 0, .int .i64 0, .int .i64 0, .int .i64 0, .int .i64 0, .int .i64 0, .int .i64 0, .int .i64 0, .string ⟨#[]⟩, .bool false, .int .i64 0, .int .i64 0, .int .i64 0, .int .i64 0, .int .i64 0, .int .i64 0, .int .i64 0, .int .i64 0, .bool false] 77)) w3.heap.size 0 C.toList).cell? ⟨w3.heap.size, 9, none⟩ = some (.bool true) := (cell_of s1 9).trans HCX9.out
    have x10 : (World.setCells (w3.alloc (.cells #[.int .i64 0, .int .i64 0, .int .i64 0, .int .i64 0, .int .i64 0, .int .i64 0, .int .i64 0, .int .i64 0, .string ⟨#[]⟩, .bool false, .int .i64 0, .int .i64 0, .int .i64 0, .int .i64 0, .int .i64 0, .int .i64 0, .int .i64 0, .int .i64 0, .bool false] 77)) w3.heap.size 0 C.toList).cell? ⟨w3.heap.size, 10, none⟩ = some (.int .i64 g0) := (cell_of s1 10).trans HCX10.out
    have x11 : (World.setCells (w3.alloc (.cells #[.int .i64 0, .int .i64 0, .int .i64 0, .int .i64 0, .int .i64 0, .int .i64 0, .int .i64 0, .int .i64 0, .string ⟨#[]⟩, .bool false, .int .i64 0, .int .i64 0, .int .i64 0, .int .i64 0, .int .i64 0, .int .i64 0, .int .i64 0, .int .i64 0, .bool false] 77)) w3.heap.size 0 C.toList).cell? ⟨w3.heap.size, 11, none⟩ = some (.int .i64 1) := (cell_of s1 11).trans HCX11.out
    have x12 : (World.setCells (w3.alloc (.cells #[.int .i64 0, .int .i64 0, .int .i64 0, .int .i64 0, .int .i64 0, .int .i64 0, .int .i64 0, .int .i64 0, .string ⟨#[]⟩, .bool false, .int .i64 0, .int .i64 0, .int .i64 0, .int .i64 0, .int .i64 0, .int .i64 0, .int .i64 0, .int .i64 0, .bool false] 77)) w3.heap.size 0 C.toList).cell? ⟨w3.heap.size, 12, none⟩ = some (.int .i64 g2) := (cell_of s1 12).trans HCX12.out
    have x13 : (World.setCells (w3.alloc (.cells #[.int .i64 0, .int .i64 0, .int .i64 0, .int .i64 0, .int .i64 0, .int .i64 0, .int .i64 0, .int .i64 0, .string ⟨#[]⟩, .bool false, .int .i64 0, .int .i64 0, .int .i64 0, .int .i64 0, .int .i64 0, .int .i64 0, .int .i64 0, .int .i64 0, .bool false] 77)) w3.heap.size 0 C.toList).cell? ⟨w3.heap.size, 13, none⟩ = some (.int .i64 g3) := (cell_of s1 13).trans HCX13.out
    have x14 : (World.setCells (w3.alloc (.cells #[.int .i64 0, .int .i64 0, .int .i64 0, .int .i64 0, .int .i64 0, .int .i64 0, .int .i64 0, .int .i64 0, .string ⟨#[]⟩, .bool false, .int .i64 0, .int .i64 0, .int .i64 0, .int .i64 0, .int .i64 0, .int .i64 0, .int .i64 0, .int .i64 0, .bool false] 77)) w3.heap.size 0 C.toList).cell? ⟨w3.heap.size, 14, none⟩ = some (.int .i64 g4) := (cell_of s1 14).trans HCX14.out
    have x15 : (World.setCells (w3.alloc (.cells #[.int .i64 0, .int .i64 0, .int .i64 0, .int .i64 0, .int .i64 0, .int .i64 0, .int .i64 0, .int .i64 0, .string ⟨#[]⟩, .bool false, .int .i64 0, .int .i64 0, .int .i64 0, .int .i64 0, .int .i64 0, .int .i64 0, .int .i64 0, .int .i64 0, .bool false] 77)) w3.heap.size 0 C.toList).cell? ⟨w3.heap.size, 15, none⟩ = some (.int .i64 g5) := (cell_of s1 15).trans HCX15.out
    have x16 : (World.setCells (w3.alloc (.cells #[.int .i64 0, .int .i64 0, .int .i64 0, .int .i64 0, .int .i64 0, .int .i64 0, .int .i64 0, .int .i64 0, .string ⟨#[]⟩, .bool false, .int .i64 0, .int .i64 0, .int .i64 0, .int .i64 0, .int .i64 0, .int .i64 0, .int .i64 0, .int .i64 0, .bool false] 77)) w3.heap.size 0 C.toList).cell? ⟨w3.heap.size, 16, none⟩ = some (.int .i64 g6) := (cell_of s1 16).trans HCX16.out
    have x17 : (World.setCells (w3.alloc (.cells #[.int .i64 0, .int .i64 0, .int .i64 0, .int .i64 0, .int .i64 0, .int .i64 0, .int .i64 0, .int .i64 0, .string ⟨#[]⟩, .bool false, .int .i64 0, .int .i64 0, .int .i64 0, .int .i64 0, .int .i64 0, .int .i64 0, .int .i64 0, .int .i64 0, .bool false] 77)) w3.heap.size 0 C.toList).cell? ⟨w3.heap.size, 17, none⟩ = some (.int .i64 g7) := (cell_of s1 17).trans HCX17.out
    have x18 : (World.setCells (w3.alloc (.cells #[.int .i64 0, .int .i64 0, .int .i64 0, .int .i64 0, .int .i64 0, .int .i64 0, .int .i64 0, .int .i64 0, .string ⟨#[]⟩, .bool false, .int .i64 0, .int .i64 0, .int .i64 0, .int .i64 0, .int .i64 0, .int .i64 0, .int .i64 0, .int .i64 0, .bool false] 77)) w3.heap.size 0 C.toList).cell? ⟨w3.heap.size, 18, none⟩ = some (.bool true) := (cell_of s1 18).trans HCX18.out
    have huB := (s2.block _ hlt1).trans q1
    have huL : w.heap.size + 1 < (World.setCells (w3.alloc (.cells #[.int .i64 0, .int .i64 0, .int .i64 0, .int .i64 0, .int .i64 0, .int .i64 0, .int .i64 0, .int .i64 0, .string ⟨#[]⟩, .bool false, .int .i64 0, .int .i64 0, .int .i64 0, .int .i64 0, .int .i64 0, .int .i64 0, .int .i64 0, .int .i64 0, .bool false] 77)) w3.heap.size 0 C.toList).heap.size := by have := hlt1; omega
    have u0 : (World.setCells (w3.alloc (.cells #[.int .i64 0, .int .i64 0, .int .i64 0, .int .i64 0, .int .i64 0, .int .i64 0, .int .i64 0, .int .i64 0, .string ⟨#[]⟩, .bool false, .int .i64 0, .int .i64 0, .int .i64 0, .int .i64 0, .int .i64 0, .int .i64 0, .int .i64 0, .int .i64 0, .bool false] 77)) w3.heap.size 0 C.toList).cell? ⟨w.heap.size + 1, 0, none⟩ = some (.int .i64 want) := cell_of huB 0
    have u2 : (World.setCells (w3.alloc (.cells #[.int .i64 0, .int .i64 0, .int .i64 0, .int .i64 0, .int .i64 0, .int .i64 0, .int .i64 0, .int .i64 0, .string ⟨#[]⟩, .bool false, .int .i64 0, .int .i64 0, .int .i64 0, .int .i64 0, .int .i64 0, .int .i64 0, .int .i64 0, .int .i64 0, .bool false] 77)) w3.heap.size 0 C.toList).cell? ⟨w.heap.size + 1, 2, none⟩ = some (.bool false) := cell_of huB 2
    have u3 : (World.setCells (w3.alloc (.cells #[.int .i64 0, .int .i64 0, .int .i64 0, .int .i64 0, .int .i64 0, .int .i64 0, .int .i64 0, .int .i64 0, .string ⟨#[]⟩, .bool false, .int .i64 0, .int .i64 0, .int .i64 0, .int .i64 0, .int .i64 0, .int .i64 0, .int .i64 0, .int .i64 0, .bool false] 77)) w3.heap.size 0 C.toList).cell? ⟨w.heap.size + 1, 3, none⟩ = some (.bool empty) := cell_of huB 3
    have haB := (s2.block _ hlt2).trans q2
    have haL : w.heap.size + 1 + 1 < (World.setCells (w3.alloc (.cells #[.int .i64 0, .int .i64 0, .int .i64 0, .int .i64 0, .int .i64 0, .int .i64 0, .int .i64 0, .int .i64 0, .string ⟨#[]⟩, .bool false, .int .i64 0, .int .i64 0, .int .i64 0, .int .i64 0, .int .i64 0, .int .i64 0, .int .i64 0, .int .i64 0, .bool false] 77)) w3.heap.size 0 C.toList).heap.size := by have := hlt2; omega
    have a0 : (World.setCells (w3.alloc (.cells #[.int .i64 0, .int .i64 0, .int .i64 0, .int .i64 0, .int .i64 0, .int .i64 0, .int .i64 0, .int .i64 0, .string ⟨#[]⟩, .bool false, .int .i64 0, .int .i64 0, .int .i64 0, .int .i64 0, .int .i64 0, .int .i64 0, .int .i64 0, .int .i64 0, .bool false] 77)) w3.heap.size 0 C.toList).cell? ⟨w.heap.size + 1 + 1, 0, none⟩ = some (.pointer (some ⟨t, 0, none⟩)) := cell_of haB 0
    have a1 : (World.setCells (w3.alloc (.cells #[.int .i64 0, .int .i64 0, .int .i64 0, .int .i64 0, .int .i64 0, .int .i64 0, .int .i64 0, .int .i64 0, .string ⟨#[]⟩, .bool false, .int .i64 0, .int .i64 0, .int .i64 0, .int .i64 0, .int .i64 0, .int .i64 0, .int .i64 0, .int .i64 0, .bool false] 77)) w3.heap.size 0 C.toList).cell? ⟨w.heap.size + 1 + 1, 1, none⟩ = some (.int .i64 cwd) := cell_of haB 1
    have a2 : (World.setCells (w3.alloc (.cells #[.int .i64 0, .int .i64 0, .int .i64 0, .int .i64 0, .int .i64 0, .int .i64 0, .int .i64 0, .int .i64 0, .string ⟨#[]⟩, .bool false, .int .i64 0, .int .i64 0, .int .i64 0, .int .i64 0, .int .i64 0, .int .i64 0, .int .i64 0, .int .i64 0, .bool false] 77)) w3.heap.size 0 C.toList).cell? ⟨w.heap.size + 1 + 1, 2, none⟩ = some (.int .i64 c.real) := cell_of haB 2
    have a3 : (World.setCells (w3.alloc (.cells #[.int .i64 0, .int .i64 0, .int .i64 0, .int .i64 0, .int .i64 0, .int .i64 0, .int .i64 0, .int .i64 0, .string ⟨#[]⟩, .bool false, .int .i64 0, .int .i64 0, .int .i64 0, .int .i64 0, .int .i64 0, .int .i64 0, .int .i64 0, .int .i64 0, .bool false] 77)) w3.heap.size 0 C.toList).cell? ⟨w.heap.size + 1 + 1, 3, none⟩ = some (.int .i64 c.eff) := cell_of haB 3
    have a4 : (World.setCells (w3.alloc (.cells #[.int .i64 0, .int .i64 0, .int .i64 0, .int .i64 0, .int .i64 0, .int .i64 0, .int .i64 0, .int .i64 0, .string ⟨#[]⟩, .bool false, .int .i64 0, .int .i64 0, .int .i64 0, .int .i64 0, .int .i64 0, .int .i64 0, .int .i64 0, .int .i64 0, .bool false] 77)) w3.heap.size 0 C.toList).cell? ⟨w.heap.size + 1 + 1, 4, none⟩ = some (.int .i64 c.saved) := cell_of haB 4
    have a5 : (World.setCells (w3.alloc (.cells #[.int .i64 0, .int .i64 0, .int .i64 0, .int .i64 0, .int .i64 0, .int .i64 0, .int .i64 0, .int .i64 0, .string ⟨#[]⟩, .bool false, .int .i64 0, .int .i64 0, .int .i64 0, .int .i64 0, .int .i64 0, .int .i64 0, .int .i64 0, .int .i64 0, .bool false] 77)) w3.heap.size 0 C.toList).cell? ⟨w.heap.size + 1 + 1, 5, none⟩ = some (.int .i64 c.group) := cell_of haB 5
    have a6 : (World.setCells (w3.alloc (.cells #[.int .i64 0, .int .i64 0, .int .i64 0, .int .i64 0, .int .i64 0, .int .i64 0, .int .i64 0, .int .i64 0, .string ⟨#[]⟩, .bool false, .int .i64 0, .int .i64 0, .int .i64 0, .int .i64 0, .int .i64 0, .int .i64 0, .int .i64 0, .int .i64 0, .bool false] 77)) w3.heap.size 0 C.toList).cell? ⟨w.heap.size + 1 + 1, 6, none⟩ = some (.int .i64 c.eg) := cell_of haB 6
    have hpB := (s2.block _ hlt).trans q3
    have hpL : w.heap.size + 1 + 1 + 1 < (World.setCells (w3.alloc (.cells #[.int .i64 0, .int .i64 0, .int .i64 0, .int .i64 0, .int .i64 0, .int .i64 0, .int .i64 0, .int .i64 0, .string ⟨#[]⟩, .bool false, .int .i64 0, .int .i64 0, .int .i64 0, .int .i64 0, .int .i64 0, .int .i64 0, .int .i64 0, .int .i64 0, .bool false] 77)) w3.heap.size 0 C.toList).heap.size := by have := hlt; omega
    have p0 : (World.setCells (w3.alloc (.cells #[.int .i64 0, .int .i64 0, .int .i64 0, .int .i64 0, .int .i64 0, .int .i64 0, .int .i64 0, .int .i64 0, .string ⟨#[]⟩, .bool false, .int .i64 0, .int .i64 0, .int .i64 0, .int .i64 0, .int .i64 0, .int .i64 0, .int .i64 0, .int .i64 0, .bool false] 77)) w3.heap.size 0 C.toList).cell? ⟨w.heap.size + 1 + 1 + 1, 0, none⟩ = some (.int .i64 0) := cell_of hpB 0
    have p1 : (World.setCells (w3.alloc (.cells #[.int .i64 0, .int .i64 0, .int .i64 0, .int .i64 0, .int .i64 0, .int .i64 0, .int .i64 0, .int .i64 0, .string ⟨#[]⟩, .bool false, .int .i64 0, .int .i64 0, .int .i64 0, .int .i64 0, .int .i64 0, .int .i64 0, .int .i64 0, .int .i64 0, .bool false] 77)) w3.heap.size 0 C.toList).cell? ⟨w.heap.size + 1 + 1 + 1, 1, none⟩ = some (.int .i64 0) := cell_of hpB 1
    have p2 : (World.setCells (w3.alloc (.cells #[.int .i64 0, .int .i64 0, .int .i64 0, .int .i64 0, .int .i64 0, .int .i64 0, .int .i64 0, .int .i64 0, .string ⟨#[]⟩, .bool false, .int .i64 0, .int .i64 0, .int .i64 0, .int .i64 0, .int .i64 0, .int .i64 0, .int .i64 0, .int .i64 0, .bool false] 77)) w3.heap.size 0 C.toList).cell? ⟨w.heap.size + 1 + 1 + 1, 2, none⟩ = some (.int .i64 0) := cell_of hpB 2
    have p3 : (World.setCells (w3.alloc (.cells #[.int .i64 0, .int .i64 0, .int .i64 0, .int .i64 0, .int .i64 0, .int .i64 0, .int .i64 0, .int .i64 0, .string ⟨#[]⟩, .bool false, .int .i64 0, .int .i64 0, .int .i64 0, .int .i64 0, .int .i64 0, .int .i64 0, .int .i64 0, .int .i64 0, .bool false] 77)) w3.heap.size 0 C.toList).cell? ⟨w.heap.size + 1 + 1 + 1, 3, none⟩ = some (.int .i64 0) := cell_of hpB 3
    have p4 : (World.setCells (w3.alloc (.cells #[.int .i64 0, .int .i64 0, .int .i64 0, .int .i64 0, .int .i64 0, .int .i64 0, .int .i64 0, .int .i64 0, .string ⟨#[]⟩, .bool false, .int .i64 0, .int .i64 0, .int .i64 0, .int .i64 0, .int .i64 0, .int .i64 0, .int .i64 0, .int .i64 0, .bool false] 77)) w3.heap.size 0 C.toList).cell? ⟨w.heap.size + 1 + 1 + 1, 4, none⟩ = some (.int .i64 0) := cell_of hpB 4
    have p5 : (World.setCells (w3.alloc (.cells #[.int .i64 0, .int .i64 0, .int .i64 0, .int .i64 0, .int .i64 0, .int .i64 0, .int .i64 0, .int .i64 0, .string ⟨#[]⟩, .bool false, .int .i64 0, .int .i64 0, .int .i64 0, .int .i64 0, .int .i64 0, .int .i64 0, .int .i64 0, .int .i64 0, .bool false] 77)) w3.heap.size 0 C.toList).cell? ⟨w.heap.size + 1 + 1 + 1, 5, none⟩ = some (.int .i64 0) := cell_of hpB 5
    have p6 : (World.setCells (w3.alloc (.cells #[.int .i64 0, .int .i64 0, .int .i64 0, .int .i64 0, .int .i64 0, .int .i64 0, .int .i64 0, .int .i64 0, .string ⟨#[]⟩, .bool false, .int .i64 0, .int .i64 0, .int .i64 0, .int .i64 0, .int .i64 0, .int .i64 0, .int .i64 0, .int .i64 0, .bool false] 77)) w3.heap.size 0 C.toList).cell? ⟨w.heap.size + 1 + 1 + 1, 6, none⟩ = some (.int .i64 0) := cell_of hpB 6
    have p7 : (World.setCells (w3.alloc (.cells #[.int .i64 0, .int .i64 0, .int .i64 0, .int .i64 0, .int .i64 0, .int .i64 0, .int .i64 0, .int .i64 0, .string ⟨#[]⟩, .bool false, .int .i64 0, .int .i64 0, .int .i64 0, .int .i64 0, .int .i64 0, .int .i64 0, .int .i64 0, .int .i64 0, .bool false] 77)) w3.heap.size 0 C.toList).cell? ⟨w.heap.size + 1 + 1 + 1, 7, none⟩ = some (.int .i64 0) := cell_of hpB 7
    have s5 : ∀ i, (World.setCells (w3.alloc (.cells #[.int .i64 0, .int .i64 0, .int .i64 0, .int .i64 0, .int .i64 0, .int .i64 0, .int .i64 0, .int .i64 0, .string ⟨#[]⟩, .bool false, .int .i64 0, .int .i64 0, .int .i64 0, .int .i64 0, .int .i64 0, .int .i64 0, .int .i64 0, .int .i64 0, .bool false] 77)) w3.heap.size 0 C.toList).frozen? ⟨w.heap.size + 1 + 1 + 1, i, none⟩ = false := fun i => frozen_of hpB i
    have z0 : (World.setCells (w3.alloc (.cells #[.int .i64 0, .int .i64 0, .int .i64 0, .int .i64 0, .int .i64 0, .int .i64 0, .int .i64 0, .int .i64 0, .string ⟨#[]⟩, .bool false, .int .i64 0, .int .i64 0, .int .i64 0, .int .i64 0, .int .i64 0, .int .i64 0, .int .i64 0, .int .i64 0, .bool false] 77)) w3.heap.size 0 C.toList).frozen? ⟨w.heap.size + 1 + 1 + 1, 0, none⟩ = false := s5 0
    have z1 : (World.setCells (w3.alloc (.cells #[.int .i64 0, .int .i64 0, .int .i64 0, .int .i64 0, .int .i64 0, .int .i64 0, .int .i64 0, .int .i64 0, .string ⟨#[]⟩, .bool false, .int .i64 0, .int .i64 0, .int .i64 0, .int .i64 0, .int .i64 0, .int .i64 0, .int .i64 0, .int .i64 0, .bool false] 77)) w3.heap.size 0 C.toList).frozen? ⟨w.heap.size + 1 + 1 + 1, 1, none⟩ = false := s5 1
    have z2 : (World.setCells (w3.alloc (.cells #[.int .i64 0, .int .i64 0, .int .i64 0, .int .i64 0, .int .i64 0, .int .i64 0, .int .i64 0, .int .i64 0, .string ⟨#[]⟩, .bool false, .int .i64 0, .int .i64 0, .int .i64 0, .int .i64 0, .int .i64 0, .int .i64 0, .int .i64 0, .int .i64 0, .bool false] 77)) w3.heap.size 0 C.toList).frozen? ⟨w.heap.size + 1 + 1 + 1, 2, none⟩ = false := s5 2
    have z3 : (World.setCells (w3.alloc (.cells #[.int .i64 0, .int .i64 0, .int .i64 0, .int .i64 0, .int .i64 0, .int .i64 0, .int .i64 0, .int .i64 0, .string ⟨#[]⟩, .bool false, .int .i64 0, .int .i64 0, .int .i64 0, .int .i64 0, .int .i64 0, .int .i64 0, .int .i64 0, .int .i64 0, .bool false] 77)) w3.heap.size 0 C.toList).frozen? ⟨w.heap.size + 1 + 1 + 1, 3, none⟩ = false := s5 3
    have z4 : (World.setCells (w3.alloc (.cells #[.int .i64 0, .int .i64 0, .int .i64 0, .int .i64 0, .int .i64 0, .int .i64 0, .int .i64 0, .int .i64 0, .string ⟨#[]⟩, .bool false, .int .i64 0, .int .i64 0, .int .i64 0, .int .i64 0, .int .i64 0, .int .i64 0, .int .i64 0, .int .i64 0, .bool false] 77)) w3.heap.size 0 C.toList).frozen? ⟨w.heap.size + 1 + 1 + 1, 4, none⟩ = false := s5 4
    have z5 : (World.setCells (w3.alloc (.cells #[.int .i64 0, .int .i64 0, .int .i64 0, .int .i64 0, .int .i64 0, .int .i64 0, .int .i64 0, .int .i64 0, .string ⟨#[]⟩, .bool false, .int .i64 0, .int .i64 0, .int .i64 0, .int .i64 0, .int .i64 0, .int .i64 0, .int .i64 0, .int .i64 0, .bool false] 77)) w3.heap.size 0 C.toList).frozen? ⟨w.heap.size + 1 + 1 + 1, 5, none⟩ = false := s5 5
    have z6 : (World.setCells (w3.alloc (.cells #[.int .i64 0, .int .i64 0, .int .i64 0, .int .i64 0, .int .i64 0, .int .i64 0, .int .i64 0, .int .i64 0, .string ⟨#[]⟩, .bool false, .int .i64 0, .int .i64 0, .int .i64 0, .int .i64 0, .int .i64 0, .int .i64 0, .int .i64 0, .int .i64 0, .bool false] 77)) w3.heap.size 0 C.toList).frozen? ⟨w.heap.size + 1 + 1 + 1, 6, none⟩ = false := s5 6
    have z7 : (World.setCells (w3.alloc (.cells #[.int .i64 0, .int .i64 0, .int .i64 0, .int .i64 0, .int .i64 0, .int .i64 0, .int .i64 0, .int .i64 0, .string ⟨#[]⟩, .bool false, .int .i64 0, .int .i64 0, .int .i64 0, .int .i64 0, .int .i64 0, .int .i64 0, .int .i64 0, .int .i64 0, .bool false] 77)) w3.heap.size 0 C.toList).frozen? ⟨w.heap.size + 1 + 1 + 1, 7, none⟩ = false := s5 7
    clear s5
    clear q1 q2 q3
    go_upto_region 22 with (refine wpList_store_mid rfl 77 _ _ rfl w3.heap.size 0 C rfl rfl hT hI h1C ?_; generalize World.setCells (w3.alloc (.cells #[.int .i64 0, .int .i64 0, .int .i64 0, .int .i64 0, .int .i64 0, .int .i64 0, .int .i64 0, .int .i64 0, .string ⟨#[]⟩, .bool false, .int .i64 0, .int .i64 0, .int .i64 0, .int .i64 0, .int .i64 0, .int .i64 0, .int .i64 0, .int .i64 0, .bool false] 77)) w3.heap.size 0 C.toList = W5 at s1 s2 s3 x9 x10 x11 x12 x13 x14 x15 x16 x17 x18 huB huL u0 u2 u3 haB haL a0 a1 a2 a3 a4 a5 a6 hpB hpL p0 p1 p2 p3 p4 p5 p6 p7 z0 z1 z2 z3 z4 z5 z6 z7 ⊢)
    have HB3 : Hid (Below w.heap.size w W5) := Lib.hid (HB.out.trans (s2.mono HB.out.size))
    have hb4 := below_set8 (R := w.heap.size + 1 + 1 + 1) (v0 := .int .i64 g0) (v1 := .int .i64 1) (v2 := .int .i64 g2) (v3 := .int .i64 g3) (v4 := .int .i64 g4) (v5 := .int .i64 g5) (v6 := .int .i64 g6) (v7 := .int .i64 g7) HB3.out (by omega)
    have t3 := heap_set8 (v0 := .int .i64 g0) (v1 := .int .i64 1) (v2 := .int .i64 g2) (v3 := .int .i64 g3) (v4 := .int .i64 g4) (v5 := .int .i64 g5) (v6 := .int .i64 g6) (v7 := .int .i64 g7) hpB
    have t1 := (heap_set8_other (R := w.heap.size + 1 + 1 + 1) (v0 := .int .i64 g0) (v1 := .int .i64 1) (v2 := .int .i64 g2) (v3 := .int .i64 g3) (v4 := .int .i64 g4) (v5 := .int .i64 g5) (v6 := .int .i64 g6) (v7 := .int .i64 g7) (b := w.heap.size + 1) (by omega)).trans huB
    have t2 := (heap_set8_other (R := w.heap.size + 1 + 1 + 1) (v0 := .int .i64 g0) (v1 := .int .i64 1) (v2 := .int .i64 g2) (v3 := .int .i64 g3) (v4 := .int .i64 g4) (v5 := .int .i64 g5) (v6 := .int .i64 g6) (v7 := .int .i64 g7) (b := w.heap.size + 1 + 1) (by omega)).trans haB
    clear x9 x10 x11 x12 x13 x14 x15 x16 x17 x18 hT hI h1C s1 s2 s3 huB haB hpB haL hpL huL p0 z0 p1 z1 p2 z2 p3 z3 p4 z4 p5 z5 p6 z6 p7 z7 a0 a1 a2 a3 a4 a5 a6 u0 u2 u3
    generalize ((((((((W5.setCell ⟨w.heap.size + 1 + 1 + 1, 0, none⟩ (.int .i64 g0)).setCell ⟨w.heap.size + 1 + 1 + 1, 1, none⟩ (.int .i64 1)).setCell ⟨w.heap.size + 1 + 1 + 1, 2, none⟩ (.int .i64 g2)).setCell ⟨w.heap.size + 1 + 1 + 1, 3, none⟩ (.int .i64 g3)).setCell ⟨w.heap.size + 1 + 1 + 1, 4, none⟩ (.int .i64 g4)).setCell ⟨w.heap.size + 1 + 1 + 1, 5, none⟩ (.int .i64 g5)).setCell ⟨w.heap.size + 1 + 1 + 1, 6, none⟩ (.int .i64 g6)).setCell ⟨w.heap.size + 1 + 1 + 1, 7, none⟩ (.int .i64 g7)) = W6 at hb4 t3 t1 t2 ⊢
    have HB4 := Lib.hid hb4
    have y0 : W6.cell? ⟨w.heap.size + 1 + 1 + 1, 0, none⟩ = some (.int .i64 g0) := cell_of t3 0
    have y1 : W6.cell? ⟨w.heap.size + 1 + 1 + 1, 1, none⟩ = some (.int .i64 1) := cell_of t3 1
    have y2 : W6.cell? ⟨w.heap.size + 1 + 1 + 1, 2, none⟩ = some (.int .i64 g2) := cell_of t3 2
    have y3 : W6.cell? ⟨w.heap.size + 1 + 1 + 1, 3, none⟩ = some (.int .i64 g3) := cell_of t3 3
    have y4 : W6.cell? ⟨w.heap.size + 1 + 1 + 1, 4, none⟩ = some (.int .i64 g4) := cell_of t3 4
    have y5 : W6.cell? ⟨w.heap.size + 1 + 1 + 1, 5, none⟩ = some (.int .i64 g5) := cell_of t3 5
    have y6 : W6.cell? ⟨w.heap.size + 1 + 1 + 1, 6, none⟩ = some (.int .i64 g6) := cell_of t3 6
    have y7 : W6.cell? ⟨w.heap.size + 1 + 1 + 1, 7, none⟩ = some (.int .i64 g7) := cell_of t3 7
    have u0 : W6.cell? ⟨w.heap.size + 1, 0, none⟩ = some (.int .i64 want) := cell_of t1 0
    have u3 : W6.cell? ⟨w.heap.size + 1, 3, none⟩ = some (.bool empty) := cell_of t1 3
    have a0 : W6.cell? ⟨w.heap.size + 1 + 1, 0, none⟩ = some (.pointer (some ⟨t, 0, none⟩)) := cell_of t2 0
    have a1 : W6.cell? ⟨w.heap.size + 1 + 1, 1, none⟩ = some (.int .i64 cwd) := cell_of t2 1
    have a2 : W6.cell? ⟨w.heap.size + 1 + 1, 2, none⟩ = some (.int .i64 c.real) := cell_of t2 2
    have a3 : W6.cell? ⟨w.heap.size + 1 + 1, 3, none⟩ = some (.int .i64 c.eff) := cell_of t2 3
    have a4 : W6.cell? ⟨w.heap.size + 1 + 1, 4, none⟩ = some (.int .i64 c.saved) := cell_of t2 4
    have a5 : W6.cell? ⟨w.heap.size + 1 + 1, 5, none⟩ = some (.int .i64 c.group) := cell_of t2 5
    have a6 : W6.cell? ⟨w.heap.size + 1 + 1, 6, none⟩ = some (.int .i64 c.eg) := cell_of t2 6
    have T3 := Lib.hid t3
    have T1 := Lib.hid t1
    clear hb4 t3 t1 t2
    
    go_wp2
    go_ret2
    refine ⟨0, 7, rfl, Stp.keepB H.out HB4.out (HL.out _ _ _ ⟨q, HQ.out, ?_⟩)⟩
    rw [if_pos ⟨HW.out, HK.out⟩]
    exact ⟨rfl, rfl, rfl⟩
end Go.Proofs.Ytafonmnfeibaiaa
namespace Go.Proofs.Ytafonmnfeibaiaa
open Go.RowKit

/-! ### walk: Open, whole -/
theorem walkOpen_any {w : World} {t : Nat} {S : Tab} {T : IT.Tr} (h : Tre w t S T) (hh : HB T 999999) (cwd : Int) (c : Cr) (s : ByteArray) (o : Ho) :
    Calls Try.prog 15 #[.pointer (some ⟨t, 0, none⟩), .int .i64 cwd, cred c, .string s, howV o] w fun e w' => ∃ (i : Nat) (r : Int), e = .returned (.tuple #[.int .i64 i, .int .i64 r]) ∧ Stp w t S (fun T' => isOpen T c cwd (bs s) o i r T') w' := by
  cases ho : openB o with
  | false => exact wopen_bad h cwd c s o ho
  | true =>
    cases hmk : o.make with
    | false =>
      obtain ⟨⟨k0, r0⟩, hg⟩ : ∃ g, findT T c cwd (bs s) = g := ⟨_, rfl⟩
      by_cases hz : r0 = 0
      · subst hz
        exact wopen_find h hh cwd c s o ho hmk hg
      · exact wopen_nofind h cwd c s o ho hmk hg hz
    | true =>
      cases he : entryT T c cwd (bs s) with
      | error r0 => exact wopen_err h hh cwd c s o ho hmk he
      | ok x =>
        obtain ⟨m, hm, hto, _⟩ := entry_ok he
        obtain ⟨k, nm, must, to⟩ := x
        dsimp only at hm hto
        cases to with
        | none =>
          cases must with
          | true => exact wopen_must7 h hh cwd c s o ho hmk he hm
          | false => exact wopen_new h hh cwd c s o ho hmk he hm
        | some j =>
          obtain ⟨q, hq⟩ := look_there h.snd hto.symm
          cases hal : o.alone with
          | true => exact wopen_is h hh cwd c s o ho hmk he hm hq hal
          | false =>
            cases must with
            | false => exact wopen_old h hh cwd c s o ho hmk he hm hq hal
            | true =>
              by_cases hk : q.kind = 1
              · exact wopen_dir h hh cwd c s o ho hmk he hm hq hal hk
              · exact wopen_must6 h hh cwd c s o ho hmk he hm hq hal hk
theorem isMakes.sound' {may : Bool} {T T' : IT.Tr} {c : Cr} {k i : Nat} {nm : IT.Bytes} {kind mode r : Int} (h : isMakes may T c k nm kind mode i r T') (hs : IT.Sound okN T) : IT.Sound okN T' := h.sound hs
theorem isOpen.sound {T T' : IT.Tr} {c : Cr} {cwd : Int} {s : IT.Bytes} {o : Ho} {i : Nat} {r : Int} (h : isOpen T c cwd s o i r T') (hs : IT.Sound okN T) : IT.Sound okN T' := by
  unfold isOpen at h
  split at h
  · exact h.2.2 ▸ hs
  · split at h
    · split at h
      · exact h.2.2 ▸ hs
      · split at h
        · split at h
          · exact h.2.2 ▸ hs
          · obtain ⟨m, _, h⟩ := h
            exact h.sound hs
        · split at h
          · exact h.2.2 ▸ hs
          · split at h
            · exact h.2.2 ▸ hs
            · exact h.sound hs
    · split at h
      · exact h.2.2 ▸ hs
      · exact h.sound hs
theorem HB.wopen {T T' : IT.Tr} {c : Cr} {cwd : Int} {s : IT.Bytes} {o : Ho} {i B : Nat} {r : Int} (hb : HB T B) (hB : 1 ≤ B) (h : isOpen T c cwd s o i r T') : HB T' (B + 1) := by
  have hm := hb.mono (Nat.le_succ B)
  unfold isOpen at h
  split at h
  · exact h.2.2 ▸ hm
  · split at h
    · split at h
      · exact h.2.2 ▸ hm
      · split at h
        · split at h
          · exact h.2.2 ▸ hm
          · obtain ⟨m, _, h⟩ := h
            exact hm.makes (by omega) h
        · split at h
          · exact h.2.2 ▸ hm
          · split at h
            · exact h.2.2 ▸ hm
            · exact hb.opened h
    · split at h
      · exact h.2.2 ▸ hm
      · exact hb.opened h
end Go.Proofs.Ytafonmnfeibaiaa
namespace Go.Proofs.Ytafonmnfeibaiaa
open Go.RowKit

/-! ### walk, plainly: what is made and entered where it may be -/
/-- The first number that is free. -/
def FreeAt (T : IT.Tr) (j : Nat) : Prop := 1 ≤ j ∧ j ≤ 200 ∧ T j = none ∧ ∀ k, 1 ≤ k → k < j → T k ≠ none
theorem FreeAt.one {T : IT.Tr} {i j : Nat} (h : FreeAt T i) (g : FreeAt T j) : i = j := by
  by_cases e : i < j
  · exact absurd h.2.2.1 (g.2.2.2 i h.1 e)
  · by_cases e2 : j < i
    · exact absurd g.2.2.1 (h.2.2.2 j g.1 e2)
    · omega
def newN (c : Cr) (kind mode : Int) (j : Nat) : IT.Nd := ⟨kind, mode, c.eff, c.eg, 0, 1, [], [], if kind = 1 then j else 0⟩
theorem bel_new {T : IT.Tr} (hs : IT.Sound0 okN T) {j : Nat} (hj : T j = none) {m : IT.Nd} {k : Nat} {n : IT.Nd} (hk : T k = some n) : ¬ IT.Bel (IT.upd T j (some m)) j k := by
  have gen : ∀ k, IT.Bel (IT.upd T j (some m)) j k → ∀ n, T k = some n → False := fun k h => by
    induction h with
    | self => intro n hn; rw [hj] at hn; cases hn
    | @step k q hq hqk hne hb ih =>
      intro n hn
      have e : k ≠ j := fun e => by rw [e, hj] at hn; cases hn
      rw [IT.upd_other _ _ e, hn] at hq
      obtain rfl := Option.some.inj hq
      obtain ⟨rk, hrk⟩ := hs.chain
      obtain ⟨_, m', hm', _⟩ := hrk k n hn hqk hne
      exact ih m' hm'
  exact fun h => gen k h n hk
theorem makes_new {T T' : IT.Tr} (hs : IT.Sound okN T) {c : Cr} {d : Nat} {n : IT.Nd} (hd : T d = some n) (hdk : n.kind = 1) {nm : IT.Bytes} (hok : okN nm = true) (hf : IT.findN nm n.names = none) (hl : n.names.length < 40) {kind mode : Int} (hk : kind = 0 ∨ kind = 1) (hr : rt mode c.eff c.eg) {j : Nat} (hj : FreeAt T j) {i : Nat} {r : Int} (h : isMakes true T c d nm kind mode i r T') :
    i = j ∧ r = 0 ∧ T' = IT.entT (IT.upd T j (some (newN c kind mode j))) d j nm n (newN c kind mode j) := by
  unfold isMakes at h
  rw [if_neg (by decide)] at h
  obtain ⟨i1, r1, T1, h1, h⟩ := h
  unfold IT.isMake at h1
  rw [if_neg (by rintro (a | a | a); omega; omega; exact a hr), if_neg (by omega), if_neg (fun hh => hh j hj.1 hj.2.1 hj.2.2.1)] at h1
  obtain ⟨g1, g2, g3, g4, g5, g6⟩ := h1
  obtain rfl := FreeAt.one ⟨g2, g3, g4, g5⟩ hj
  have e6 : T1 = IT.upd T i1 (some (newN c kind mode i1)) := by
    rw [g6]
    unfold newN
    congr 3
    split <;> rfl
  subst g1
  rw [if_neg (by decide)] at h
  obtain ⟨r2, T2, h2, h⟩ := h
  have hne : d ≠ i1 := fun e => by rw [e, g4] at hd; cases hd
  subst e6
  unfold IT.isEnter at h2
  rw [IT.upd_other _ _ hne, hd, IT.upd_same] at h2
  dsimp only at h2
  have hz : IT.lnk (IT.upd T i1 (some (newN c kind mode i1))) i1 = 0 := by
    rw [IT.lnk_new g4 g3 rfl]
    exact hs.1.free g4
  rw [if_neg (by rw [hdk]; decide), if_neg (by rw [hok]; decide), if_neg (by rw [hf]; decide), if_neg, if_neg (by omega), if_neg (fun hh => bel_new hs.1 g4 hd hh.2)] at h2
  · obtain ⟨rfl, rfl⟩ := h2
    rw [if_neg (by decide)] at h
    exact h
  · rintro (a | a | a)
    · subst a
      obtain ⟨q, hq, _⟩ := hs.1.root
      rw [g4] at hq; cases hq
    · have := a.2
      rw [hz] at this; omega
    · rw [hz] at a; omega
theorem mkdir_new {T T' : IT.Tr} (hs : IT.Sound okN T) {c : Cr} {cwd : Int} {s : IT.Bytes} {d : Nat} {n : IT.Nd} {nm : IT.Bytes} {must : Bool} (he : entryT T c cwd s = .ok ⟨d, nm, must, none⟩) (hd : T d = some n) (hdk : n.kind = 1) (hok : okN nm = true) (hf : IT.findN nm n.names = none) (hl : n.names.length < 40) {mode : Int} (hmr : Md.rightB mode = true) (hmy : mayN n c 2 = true) (hr : rt mode c.eff c.eg) {j : Nat} (hj : FreeAt T j) {r : Int} (h : isMkdir T c cwd s mode r T') :
    r = 0 ∧ T' = IT.entT (IT.upd T j (some { newN c 1 mode j with holds := 0 })) d j nm n { newN c 1 mode j with holds := 0 } := by
  unfold isMkdir at h
  rw [if_neg (by rw [hmr]; decide), he] at h
  dsimp only at h
  rw [if_neg (by decide)] at h
  obtain ⟨m, i1, r1, T1, hm, hmk, h⟩ := h
  rw [hd] at hm
  obtain rfl := Option.some.inj hm
  rw [hmy] at hmk
  obtain ⟨rfl, rfl, rfl⟩ := makes_new hs hd hdk hok hf hl (.inr rfl) hr hj hmk
  rw [if_pos rfl] at h
  obtain ⟨rfl, b, h⟩ := h
  refine ⟨rfl, ?_⟩
  have hne : i1 ≠ d := fun e => by rw [← e, hj.2.2.1] at hd; cases hd
  have hsn : IT.Sound okN (IT.entT (IT.upd T i1 (some (newN c 1 mode i1))) d i1 nm n (newN c 1 mode i1)) := isMakes.sound hmk hs
  have hi : IT.entT (IT.upd T i1 (some (newN c 1 mode i1))) d i1 nm n (newN c 1 mode i1) i1 = some (IT.under d (newN c 1 mode i1)) := IT.entT_names hne
  unfold IT.isDrop at h
  rw [hi] at h
  dsimp only at h
  rw [if_neg (by rw [IT.under_holds]; exact Nat.one_ne_zero)] at h
  have hnf := h.2
  have e1 : IT.upd (IT.entT (IT.upd T i1 (some (newN c 1 mode i1))) d i1 nm n (newN c 1 mode i1)) i1 (some { IT.under d (newN c 1 mode i1) with holds := (IT.under d (newN c 1 mode i1)).holds - 1 }) = IT.entT (IT.upd T i1 (some { newN c 1 mode i1 with holds := 0 })) d i1 nm n { newN c 1 mode i1 with holds := 0 } := by
    funext k
    unfold IT.entT IT.upd
    by_cases a : k = i1
    · subst a
      rw [if_pos rfl, if_neg hne, if_pos rfl]
      unfold IT.under newN
      rfl
    · by_cases a2 : k = d
      · rw [if_neg a, if_pos a2, if_pos a2]
      · rw [if_neg a, if_neg a2, if_neg a, if_neg a, if_neg a2, if_neg a, if_neg a]
  rw [e1] at hnf
  refine (IT.nf_stay hnf fun k hc => ?_)
  rw [← e1] at hc
  rcases IT.same_can hi hj.2.1 (n' := { IT.under d (newN c 1 mode i1) with holds := (IT.under d (newN c 1 mode i1)).holds - 1 }) rfl hc with ⟨rfl, _⟩ | h0
  · have hlk := hc.2.2.2
    rw [IT.lnk_same hj.2.1 hi (n' := { IT.under d (newN c 1 mode k) with holds := (IT.under d (newN c 1 mode k)).holds - 1 }) rfl, IT.ent_lnk (by rw [IT.upd_other _ _ (Ne.symm hne)]; exact hd) (IT.upd_same _ _ _) hne (hs.1.rng d n hd).2 hj.2.1, if_pos rfl] at hlk
    omega
  · exact hsn.2 k h0
end Go.Proofs.Ytafonmnfeibaiaa
namespace Go.Proofs.Ytafonmnfeibaiaa
open Go.RowKit

/-! ### walk: each keeps the tree sound, and the bound of holds -/
theorem isMkdir.sound {T T' : IT.Tr} {c : Cr} {cwd : Int} {s : IT.Bytes} {mode r : Int} (h : isMkdir T c cwd s mode r T') (hs : IT.Sound okN T) : IT.Sound okN T' := by
  unfold isMkdir at h
  split at h
  · exact h.2 ▸ hs
  · split at h
    · exact h.2 ▸ hs
    · split at h
      · exact h.2 ▸ hs
      · obtain ⟨m, i1, r1, T1, _, h1, h⟩ := h
        split at h
        · obtain ⟨_, b, h⟩ := h
          exact h.sound (isMakes.sound h1 hs)
        · exact h.2 ▸ isMakes.sound h1 hs
theorem HB.mkdir {T T' : IT.Tr} {c : Cr} {cwd : Int} {s : IT.Bytes} {mode r : Int} {B : Nat} (hb : HB T B) (hB : 1 ≤ B) (h : isMkdir T c cwd s mode r T') : HB T' B := by
  unfold isMkdir at h
  split at h
  · exact h.2 ▸ hb
  · split at h
    · exact h.2 ▸ hb
    · split at h
      · exact h.2 ▸ hb
      · obtain ⟨m, i1, r1, T1, _, h1, h⟩ := h
        split at h
        · obtain ⟨_, b, h⟩ := h
          exact (hb.makes hB h1).drop h
        · exact h.2 ▸ hb.makes hB h1
theorem isChown.sound {T T' : IT.Tr} {c : Cr} {cwd : Int} {s : IT.Bytes} {o g r : Int} (h : isChown T c cwd s o g r T') (hs : IT.Sound okN T) : IT.Sound okN T' := by
  unfold isChown at h
  split at h
  · exact h.2 ▸ hs
  · obtain ⟨m, _, h⟩ := h
    split at h
    · exact h.2 ▸ hs
    · exact h.sound hs
theorem HB.chown {T T' : IT.Tr} {c : Cr} {cwd : Int} {s : IT.Bytes} {o g r : Int} {B : Nat} (hb : HB T B) (h : isChown T c cwd s o g r T') : HB T' B := by
  unfold isChown at h
  split at h
  · exact h.2 ▸ hb
  · obtain ⟨m, _, h⟩ := h
    split at h
    · exact h.2 ▸ hb
    · exact hb.set h
theorem isWRemove.sound {T T' : IT.Tr} {c : Cr} {cwd : Int} {s : IT.Bytes} {dir : Bool} {r : Int} (h : isWRemove T c cwd s dir r T') (hs : IT.Sound okN T) : IT.Sound okN T' := by
  unfold isWRemove at h
  split at h
  · exact h.2 ▸ hs
  · split at h
    · exact h.2 ▸ hs
    · obtain ⟨m, q, _, _, h⟩ := h
      split at h
      · exact h.2 ▸ hs
      · split at h
        · exact h.2 ▸ hs
        · split at h
          · exact h.2 ▸ hs
          · split at h
            · exact h.2 ▸ hs
            · exact h.sound hs
theorem HB.wremove {T T' : IT.Tr} {c : Cr} {cwd : Int} {s : IT.Bytes} {dir : Bool} {r : Int} {B : Nat} (hb : HB T B) (h : isWRemove T c cwd s dir r T') : HB T' B := by
  unfold isWRemove at h
  split at h
  · exact h.2 ▸ hb
  · split at h
    · exact h.2 ▸ hb
    · obtain ⟨m, q, _, _, h⟩ := h
      split at h
      · exact h.2 ▸ hb
      · split at h
        · exact h.2 ▸ hb
        · split at h
          · exact h.2 ▸ hb
          · split at h
            · exact h.2 ▸ hb
            · exact hb.remove h
theorem isLink.sound {T T' : IT.Tr} {c : Cr} {cwd : Int} {s ar : IT.Bytes} {r : Int} (h : isLink T c cwd s ar r T') (hs : IT.Sound okN T) : IT.Sound okN T' := by
  unfold isLink at h
  split at h
  · exact h.2 ▸ hs
  · obtain ⟨q, _, h⟩ := h
    split at h
    · exact h.2 ▸ hs
    · split at h
      · exact h.2 ▸ hs
      · split at h
        · exact h.2 ▸ hs
        · split at h
          · exact h.2 ▸ hs
          · obtain ⟨m, _, h⟩ := h
            split at h
            · exact h.2 ▸ hs
            · exact h.sound hs
theorem HB.link {T T' : IT.Tr} {c : Cr} {cwd : Int} {s ar : IT.Bytes} {r : Int} {B : Nat} (hb : HB T B) (h : isLink T c cwd s ar r T') : HB T' B := by
  unfold isLink at h
  split at h
  · exact h.2 ▸ hb
  · obtain ⟨q, _, h⟩ := h
    split at h
    · exact h.2 ▸ hb
    · split at h
      · exact h.2 ▸ hb
      · split at h
        · exact h.2 ▸ hb
        · split at h
          · exact h.2 ▸ hb
          · obtain ⟨m, _, h⟩ := h
            split at h
            · exact h.2 ▸ hb
            · exact hb.enter h

/-! ### the law's own: who, shown -/
def whoC (u g : Int) : Cr := ⟨u, u, u, g, g⟩
set_option maxHeartbeats 400000 in
theorem who_any (u g : Int) (w : World) :
    Calls Try.prog 10 #[.int .i64 u, .int .i64 g] w fun e w' => e = .returned (cred (whoC u g)) ∧ Below w.heap.size w w' := by
  unfold cred whoC
  dsimp only
  go_enter Try.func10, Try.ntmps10
  go_wp2
  refine bodyPost_ret (v := .agg #[.int .i64 u, .int .i64 u, .int .i64 u, .int .i64 g, .int .i64 g]) (by simp [results, Try.results10, go_sem]) rfl ⟨rfl, ?_⟩
  exact belowA (Below.refl _ _) _
end Go.Proofs.Ytafonmnfeibaiaa
namespace Go.Proofs.Ytafonmnfeibaiaa
open Go.RowKit

theorem sz (s : ByteArray) : s.data.toList.length = s.size := by simp
theorem data_get (s : ByteArray) (j : Nat) (h : j < s.size) : s.data[j]! = s[j] := by
  have h1 : j < s.data.size := h
  rw [getElem!_pos s.data j h1]; rfl
theorem toList_get (s : ByteArray) (j : Nat) (h : j < s.data.toList.length) : s.data.toList[j] = s.data[j]! := by
  have h1 : j < s.data.size := by simpa using h
  rw [getElem!_pos s.data j h1]; simp
theorem contains_idx (l : List UInt8) (c : UInt8) : l.contains c = decide (0 ≤ Lib.indexByte l c) := by
  rw [Bool.eq_iff_iff]
  simp only [List.contains_iff_mem, decide_eq_true_eq]
  constructor
  · intro hm
    have h1 := Lib.indexByte_ge l c
    rcases Int.lt_or_le (Lib.indexByte l c) 0 with h | h
    · obtain ⟨k, hk, he⟩ := List.getElem_of_mem hm
      exact absurd (by rw [List.getElem?_eq_getElem hk, he]) (Lib.indexByte_none (by omega) k)
    · exact h
  · intro h
    obtain ⟨i, hi⟩ : ∃ i : Nat, Lib.indexByte l c = i := ⟨(Lib.indexByte l c).toNat, by omega⟩
    exact List.mem_of_getElem? (Lib.indexByte_some hi).1
theorem nameB_iff (s : ByteArray) : nameB s = true ↔ (¬ s.data.toList = [] ∧ s.size ≤ 14 ∧ ¬ s.data.toList = [46] ∧ ¬ s.data.toList = [46, 46] ∧ plainB s.data.toList = true ∧ 47 ∉ s.data.toList) := by
  simp only [nameB, decide_eq_true_eq]
  have := contains_idx s.data.toList 47
  rw [Bool.eq_iff_iff] at this
  simp only [List.contains_iff_mem, decide_eq_true_eq] at this
  rw [this]

/-! ### The document's Name -/
theorem nameB_neg (s : ByteArray) (j : Nat) (hj : j < s.size) (h : s[j].toNat < 32 ∨ s[j].toNat = 127 ∨ s[j].toNat = 47) : nameB s = false := by
  rw [Bool.eq_false_iff]
  intro hn
  obtain ⟨_, _, _, _, hp, hno⟩ := (nameB_iff s).1 hn
  by_cases h1 : s[j].toNat < 32 ∨ s[j].toNat = 127
  · have : okc s[j] = false := by simp [okc]; omega
    rw [plain_bad s j hj this] at hp; cases hp
  · refine hno ?_
    have e : s[j] = 47 := UInt8.toNat_inj.1 (by have e : (47 : UInt8).toNat = 47 := rfl; omega)
    have : s.data.toList[j]'(by rw [sz]; exact hj) = 47 := by rw [toList_get, data_get s j hj, e]
    rw [← this]; exact List.getElem_mem _
set_option maxHeartbeats 400000 in
theorem rname_any (s : ByteArray) (w : World) :
    Calls Try.prog 25 #[.string s] w fun e w' => e = .returned (.bool (nameB s)) ∧ w = w' := by
  by_cases h1 : s.size < 1
  · have HN : Hid (nameB s = false) := Lib.hid (by
      rw [Bool.eq_false_iff]; intro hn
      have := (nameB_iff s).1 hn
      exact this.1 (List.eq_nil_of_length_eq_zero (by rw [sz]; omega)))
    have h11 : (s.size : Int) < 1 := by omega
    go_enter Try.func25, Try.ntmps25
    go_wp2
    go_ret
    exact ⟨ret_bool HN.out.symm, rfl⟩
  have h11 : ¬ (s.size : Int) < 1 := by omega
  by_cases h2 : 14 < s.size
  · have HN : Hid (nameB s = false) := Lib.hid (by
      rw [Bool.eq_false_iff]; intro hn
      have := (nameB_iff s).1 hn
      omega)
    have h21 : (14 : Int) < s.size := by omega
    go_enter Try.func25, Try.ntmps25
    go_wp2
    go_ret
    exact ⟨ret_bool HN.out.symm, rfl⟩
  have h21 : ¬ (14 : Int) < s.size := by omega
  by_cases h3 : s.data.toList = [46]
  · have HN : Hid (nameB s = false) := Lib.hid (by
      rw [Bool.eq_false_iff]; intro hn
      exact ((nameB_iff s).1 hn).2.2.1 h3)
    have h31 : s.toList = [46] := by rw [toList_data]; exact h3
    clear h3
    go_enter Try.func25, Try.ntmps25
    go_wp2
    go_ret
    exact ⟨ret_bool HN.out.symm, rfl⟩
  have h31 : (s.toList == [46]) = false := by rw [toList_data]; simpa using h3
  by_cases h4 : s.data.toList = [46, 46]
  · have HN : Hid (nameB s = false) := Lib.hid (by
      rw [Bool.eq_false_iff]; intro hn
      exact ((nameB_iff s).1 hn).2.2.2.1 h4)
    have h41 : s.toList = [46, 46] := by rw [toList_data]; exact h4
    clear h3 h4
    go_enter Try.func25, Try.ntmps25
    go_wp2
    go_ret
    exact ⟨ret_bool HN.out.symm, rfl⟩
  have h41 : (s.toList == [46, 46]) = false := by rw [toList_data]; simpa using h4
  have H3 := Lib.hid h3
  have H4 := Lib.hid h4
  clear h3 h4
  go_enter Try.func25, Try.ntmps25
  go_wp2
  go_loop [3] (fun i => ∃ k : Nat, k ≤ s.size ∧ i = .int .i64 k ∧ plainB (s.data.toList.take k) = true ∧ (∀ j (h : j < s.size), j < k → s[j].toNat ≠ 47)) (fun i => s.size - (intOf i).toNat)
  case atStart => exact ⟨0, Nat.zero_le _, rfl, rfl, fun j _ h => by omega⟩
  case round =>
    obtain ⟨k, hk, rfl, hp, hq⟩ := hrel
    have HP := Lib.hid hp
    have HQ := Lib.hid hq
    clear hp hq
    by_cases hlt : k < s.size
    · have HB := Lib.hid (fun h => nameB_neg s k hlt h)
      by_cases g1 : (s[k].toNat : Int) < 32
      · go_wp2
        go_ret
        exact ⟨ret_bool (HB.out (.inl (by omega))).symm, rfl⟩
      by_cases g2 : ((s[k].toNat : Int) == 127) = true
      · go_wp2
        go_ret
        exact ⟨ret_bool (HB.out (.inr (.inl (by simp at g2; omega)))).symm, rfl⟩
      by_cases g3 : ((s[k].toNat : Int) == 47) = true
      · have g2' : ((s[k].toNat : Int) == 127) = false := by simpa using g2
        clear g2
        go_wp2
        go_ret
        exact ⟨ret_bool (HB.out (.inr (.inr (by simp at g3; omega)))).symm, rfl⟩
      have g2' : ((s[k].toNat : Int) == 127) = false := by simpa using g2
      have g3' : ((s[k].toNat : Int) == 47) = false := by simpa using g3
      have HO : Hid (okc s[k] = true) := Lib.hid (by simp at g2' g3'; simp [okc]; omega)
      have HE : Hid (s[k].toNat ≠ 47) := Lib.hid (by simp at g3'; omega)
      clear g2 g3
      go_wp2
      go_round
      case rel =>
        refine ⟨k + 1, by omega, by go_num, by rw [plain_take s k hlt, HP.out, HO.out]; rfl, fun j h hj => ?_⟩
        by_cases e : j = k
        · subst e; exact HE.out
        · exact HQ.out j h (by omega)
      case measure => simp [intOf]; omega
    · have HN : Hid (nameB s = true) := Lib.hid (by
        rw [nameB_iff]
        refine ⟨fun e => ?_, by omega, H3.out, H4.out, by rw [← plain_all s k (by omega)]; exact HP.out, fun hm => ?_⟩
        · have h9 := congrArg List.length e; rw [sz] at h9; have h8 : ([] : List UInt8).length = 0 := rfl; omega
        · obtain ⟨j, hj, he⟩ := List.getElem_of_mem hm
          have hj2 : j < s.size := by rw [← sz]; exact hj
          rw [toList_get, data_get s j hj2] at he
          exact HQ.out j hj2 (by omega) (by rw [he]; rfl))
      go_wp2
      go_ret
      exact ⟨ret_bool HN.out.symm, rfl⟩
theorem rname_ok (s : ByteArray) (w : World) : Calls Try.prog 25 #[.string s] w fun e w' => e = .returned (.bool (okN (bs s))) ∧ w = w' := by
  rw [← nameB_ok]; exact rname_any s w
end Go.Proofs.Ytafonmnfeibaiaa
namespace Go.Proofs.Ytafonmnfeibaiaa
open Go.RowKit

/-! ### What must be in any case: the statements' own small case -/
def sh1 : IT.Tr := IT.upd (IT.rootT 493 0 0) 2 (some ⟨1, 448, 5, 6, 0, 1, [], [], 2⟩)
def sh2 : IT.Tr := IT.entT sh1 1 2 [97] ⟨1, 493, 0, 0, 0, 0, [], [], 1⟩ ⟨1, 448, 5, 6, 0, 1, [], [], 2⟩
def sh3 : IT.Tr := IT.upd sh2 2 (some ⟨1, 448, 5, 6, 0, 0, [], [], 1⟩)
def sh4 : IT.Tr := IT.delT sh3 1 2 [97] ⟨1, 493, 0, 0, 0, 0, [], [([97], 2)], 1⟩ ⟨1, 448, 5, 6, 0, 0, [], [], 1⟩
def sh5 : IT.Tr := IT.rem sh4 2
theorem sh_make {i : Nat} {r : Int} {T' : IT.Tr} (h : IT.isMake rt (IT.rootT 493 0 0) 1 448 5 6 0 i r T') : i = 2 ∧ r = 0 ∧ T' = sh1 := by
  unfold IT.isMake at h
  have hr : rt 448 5 6 := by unfold rt; decide +kernel
  rw [if_neg (by rintro (a | a | a); omega; omega; exact a hr), if_neg (by omega), if_neg (fun hh => hh 2 (by omega) (by omega) rfl)] at h
  obtain ⟨h1, h2, h3, h4, h5, h6⟩ := h
  have hi : i = 2 := by
    by_cases e : i = 1
    · subst e; cases h4
    · by_cases e2 : 2 < i
      · exact absurd rfl (h5 2 (by omega) e2)
      · omega
  subst hi
  exact ⟨rfl, h1, h6⟩
set_option maxRecDepth 100000 in
theorem sh_enter {r : Int} {T' : IT.Tr} (h : IT.isEnter okN sh1 1 [97] 2 r T') : r = 0 ∧ T' = sh2 := by
  unfold IT.isEnter at h
  have e1 : sh1 1 = some ⟨1, 493, 0, 0, 0, 0, [], [], 1⟩ := by decide +kernel
  have e2 : sh1 2 = some ⟨1, 448, 5, 6, 0, 1, [], [], 2⟩ := by decide +kernel
  rw [e1, e2] at h
  dsimp only at h
  have hl : IT.lnk sh1 2 = 0 := by decide +kernel
  have hb : ¬ IT.Bel sh1 2 1 := IT.bel_top e1 (by decide) rfl
  rw [if_neg (by decide), if_neg (by decide +kernel), if_neg (by decide), if_neg (by rw [hl]; decide), if_neg (by decide), if_neg (fun hh => hb hh.2)] at h
  exact h
set_option maxRecDepth 100000 in
theorem sh_enter2 {r : Int} {T' : IT.Tr} (h : IT.isEnter okN sh2 2 [98] 2 r T') : r = 12 ∧ T' = sh2 := by
  unfold IT.isEnter at h
  have e2 : sh2 2 = some ⟨1, 448, 5, 6, 0, 1, [], [], 1⟩ := by decide +kernel
  rw [e2] at h
  dsimp only at h
  have hl : IT.lnk sh2 2 = 1 := by decide +kernel
  rw [if_neg (by decide), if_neg (by decide +kernel), if_neg (by decide), if_pos (by rw [hl]; decide)] at h
  exact h
theorem sh_drop {r : Bool} {T' : IT.Tr} (h : IT.isDrop sh2 2 r T') : T' = sh3 := by
  unfold IT.isDrop at h
  have e2 : sh2 2 = some ⟨1, 448, 5, 6, 0, 1, [], [], 1⟩ := by decide +kernel
  rw [e2] at h
  dsimp only at h
  rw [if_neg (by decide)] at h
  exact IT.nf_stay h.2 (IT.no_can_list (by decide +kernel))
set_option maxRecDepth 100000 in
theorem sh_remove {r : Int} {T' : IT.Tr} (h : IT.isRemove sh3 1 [97] r T') : r = 0 ∧ T' = sh5 := by
  unfold IT.isRemove at h
  have e1 : sh3 1 = some ⟨1, 493, 0, 0, 0, 0, [], [([97], 2)], 1⟩ := by decide +kernel
  have e2 : sh3 2 = some ⟨1, 448, 5, 6, 0, 0, [], [], 1⟩ := by decide +kernel
  rw [e1] at h
  dsimp only at h
  rw [if_neg (by decide), show IT.findN [97] [([97], 2)] = some 2 by decide +kernel] at h
  dsimp only at h
  obtain ⟨m, hm, h⟩ := h
  rw [e2] at hm
  obtain rfl := Option.some.inj hm
  rw [if_neg (by decide)] at h
  exact ⟨h.1, IT.nf_one h.2 (IT.can_iff.2 ⟨by omega, by decide +kernel⟩) (IT.no_can_list (by decide +kernel))⟩
theorem hb_le {T : IT.Tr} (h : (List.range 201).all (fun k => match T k with
    | none => true
    | some m => decide (m.holds ≤ 1000)) = true) (hs : IT.Sound okN T) : HB T 1000000 := fun k m hk => by
  have hr := hs.1.rng k m hk
  have h2 := List.all_eq_true.1 h k (by simp; omega)
  rw [hk] at h2
  have : m.holds ≤ 1000 := of_decide_eq_true h2
  omega

set_option maxRecDepth 100000 in
set_option maxHeartbeats 800000 in
theorem shown_any (w : World) : Calls Try.prog 20 #[] w fun e w' => e = .returned (.bool true) ∧ Below w.heap.size w w' := by
  go_enter Try.func20, Try.ntmps20
  go_wp2_with fail
  refine (new_ok _ _ _ _ (by decide +kernel)).mono ?_
  rintro e w1 ⟨t, S0, rfl, h0⟩
  have H0 := Lib.hid h0
  clear h0
  go_wp2_with fail
  refine (make_any H0.out.tre _ _ _ _ _).mono ?_
  rintro e w2 ⟨i, r, rfl, hst⟩
  obtain ⟨S1, T1, h1, hr, _⟩ := H0.out.stp hst fun T' h => h.sound H0.out.snd
  obtain ⟨rfl, rfl, rfl⟩ := sh_make hr
  have H1 := Lib.hid h1
  clear hst hr h1
  go_wp2_with fail
  refine (enter_any H1.out.tre 1 2 _).mono ?_
  rintro e w3 ⟨r, rfl, hst⟩
  obtain ⟨S2, T2, h2, hr, _⟩ := H1.out.stp hst fun T' h => h.sound H1.out.snd
  obtain ⟨rfl, rfl⟩ := sh_enter hr
  have H2 := Lib.hid h2
  clear hst hr h2
  go_wp2_with fail
  refine (look_any H2.out.tre 2 _).mono ?_
  rintro e w4 ⟨he, rfl⟩
  replace he : e = .returned (.tuple #[.int .i64 1, .bool true]) := he.trans (congrArg _ (by kernel_rfl))
  subst he
  go_wp2_with fail
  refine (enter_any H2.out.tre 2 2 _).mono ?_
  rintro e w5 ⟨r, rfl, hst⟩
  obtain ⟨S3, T3, h3, hr, _⟩ := H2.out.stp hst fun T' h => h.sound H2.out.snd
  obtain ⟨rfl, rfl⟩ := sh_enter2 hr
  have H3 := Lib.hid h3
  clear hst hr h3
  go_wp2_with fail
  refine (drop_any H3.out.tre (hb_le (by decide +kernel) H3.out.snd) 2).mono ?_
  rintro e w6 ⟨r, rfl, hst⟩
  obtain ⟨S4, T4, h4, hr, _⟩ := H3.out.stp hst fun T' h => h.sound H3.out.snd
  obtain rfl := sh_drop hr
  have H4 := Lib.hid h4
  clear hst hr h4
  go_wp2_with fail
  refine (stat_any H4.out.tre 2).mono ?_
  rintro e w7 ⟨he, hb⟩
  replace he : e = .returned (.tuple #[.agg #[.int .i64 2, .int .i64 1, .int .i64 448, .int .i64 5, .int .i64 6, .int .i64 1, .int .i64 0, .int .i64 0], .bool true]) := he.trans (congrArg _ (by kernel_rfl))
  subst he
  have H5 := Lib.hid (H4.out.below hb)
  clear hb
  go_wp2_with fail
  refine (remove_any (H5.out.alloc _).tre 1 _).mono ?_
  rintro e w8 ⟨r, rfl, hst⟩
  obtain ⟨S6, T6, h6, hr, _⟩ := (H5.out.alloc _).stp hst fun T' h => h.sound H5.out.snd
  obtain ⟨rfl, rfl⟩ := sh_remove hr
  have H6 := Lib.hid h6
  clear hst hr h6
  go_wp2_with fail
  refine (stat_any H6.out.tre 2).mono ?_
  rintro e w9 ⟨he, hb⟩
  replace he : e = .returned (.tuple #[.agg #[.int .i64 0, .int .i64 0, .int .i64 0, .int .i64 0, .int .i64 0, .int .i64 0, .int .i64 0, .int .i64 0], .bool false]) := he.trans (congrArg _ (by kernel_rfl))
  subst he
  have H7 := Lib.hid (H6.out.below hb)
  clear hb
  go_wp2
  go_ret
  exact ⟨rfl, (H7.out.alloc _).own.below⟩
end Go.Proofs.Ytafonmnfeibaiaa
namespace Go.Proofs.Ytafonmnfeibaiaa
open Go.RowKit

/-! ### the law's own small case, plainly -/
def s7r : IT.Nd := ⟨1, 493, 0, 0, 0, 0, [], [], 1⟩
def s7d : IT.Nd := { newN (whoC 0 0) 1 448 2 with holds := 0 }
def s71 : IT.Tr := IT.entT (IT.upd (IT.rootT 493 0 0) 2 (some s7d)) 1 2 [100] s7r s7d
def s7d2 : IT.Nd := ⟨1, 448, 5, 5, 0, 0, [], [], 1⟩
def s72 : IT.Tr := IT.upd s71 2 (some s7d2)
def s7f : IT.Nd := newN (whoC 5 5) 0 420 3
def s73 : IT.Tr := IT.entT (IT.upd s72 3 (some s7f)) 2 3 [120] s7d2 s7f
theorem rt_of {m o g : Int} (h : rightB m o g = true) : rt m o g := h
theorem s7_mkdir {r : Int} {T' : IT.Tr} (h : isMkdir (IT.rootT 493 0 0) (whoC 0 0) 1 [47, 100] 448 r T') : r = 0 ∧ T' = s71 :=
  mkdir_new (IT.rootT_sound okN 493 0 0) (d := 1) (n := s7r) (nm := [100]) (must := false) (by kernel_rfl) rfl rfl (by decide +kernel) rfl (by decide) (by decide +kernel) (by decide +kernel) (rt_of (by decide +kernel)) (j := 2) ⟨by omega, by omega, rfl, fun k h1 h2 => (show k = 1 by omega) ▸ (show IT.rootT 493 0 0 1 ≠ none from fun e => by cases e)⟩ h
theorem s7_chown {r : Int} {T' : IT.Tr} (h : isChown s71 (whoC 0 0) 1 [100] 5 5 r T') : r = 0 ∧ T' = s72 := by
  unfold isChown at h
  have hf : findT s71 (whoC 0 0) 1 [100] = (2, 0) := by kernel_rfl
  rw [hf, if_neg (by decide)] at h
  obtain ⟨m, hm, h⟩ := h
  have e2 : s71 2 = some ⟨1, 448, 0, 0, 0, 0, [], [], 1⟩ := by kernel_rfl
  rw [e2] at hm
  obtain rfl := Option.some.inj hm
  rw [if_neg (by decide)] at h
  unfold IT.isSet at h
  rw [e2] at h
  dsimp only at h
  rw [if_neg (fun hh => hh (rt_of (by decide +kernel)))] at h
  exact h
theorem s7_open {i : Nat} {r : Int} {T' : IT.Tr} (hs : IT.Sound okN s72) (h : isOpen s72 (whoC 5 5) 1 [47, 100, 47, 120] ⟨2, true, false, false, false, 420⟩ i r T') : i = 3 ∧ r = 0 ∧ T' = s73 := by
  unfold isOpen at h
  have he : entryT s72 (whoC 5 5) 1 [47, 100, 47, 120] = .ok ⟨2, [120], false, none⟩ := by kernel_rfl
  rw [if_neg (by decide +kernel), if_pos rfl, he] at h
  dsimp only at h
  rw [if_neg (by decide)] at h
  obtain ⟨m, hm, h⟩ := h
  have e2 : s72 2 = some s7d2 := by kernel_rfl
  rw [e2] at hm
  obtain rfl := Option.some.inj hm
  rw [show mayN s7d2 (whoC 5 5) 2 = true by decide +kernel] at h
  exact makes_new hs e2 rfl (by decide +kernel) rfl (by decide) (.inl rfl) (rt_of (by decide +kernel)) (j := 3) ⟨by omega, by omega, by kernel_rfl, fun k h1 h2 => by
    rcases (show k = 1 ∨ k = 2 by omega) with rfl | rfl
    · rw [show s72 1 = some { s7r with names := [([100], 2)] } by kernel_rfl]; exact fun e => by cases e
    · rw [e2]; exact fun e => by cases e⟩ h
theorem s7_remove {r : Int} {T' : IT.Tr} (h : isWRemove s73 (whoC 6 6) 1 [47, 100, 47, 120] false r T') : r = 4 ∧ T' = s73 := by
  unfold isWRemove at h
  have he : entryT s73 (whoC 6 6) 1 [47, 100, 47, 120] = .error 4 := by kernel_rfl
  rw [he] at h
  exact h
theorem hb_few {T : IT.Tr} (h : (List.range 201).all (fun k => match T k with
    | none => true
    | some m => decide (m.holds ≤ 1000)) = true) (hs : IT.Sound okN T) : HB T 1000 := fun k m hk => by
  have hr := hs.1.rng k m hk
  have h2 := List.all_eq_true.1 h k (by simp; omega)
  rw [hk] at h2
  exact of_decide_eq_true h2
theorem bs_lit (l : List UInt8) : bs ⟨l.toArray⟩ = l := bs_tx l
set_option maxRecDepth 100000 in
set_option maxHeartbeats 4000000 in
theorem shown7_any (w : World) : Calls Try.prog 8 #[] w fun e w' => e = .returned (.bool true) ∧ Below w.heap.size w w' := by
  go_enter Try.func8, Try.ntmps8
  go_wp2_with fail
  refine (new_ok _ _ _ _ (by decide +kernel)).mono ?_
  rintro e w1 ⟨t, S0, rfl, h0⟩
  have H0 := Lib.hid h0
  clear h0
  go_wp2_with fail
  refine (who_any _ _ _).mono ?_
  rintro e w2 ⟨rfl, hb⟩
  have H1 := Lib.hid (H0.out.below hb)
  clear hb
  go_wp2_with fail
  refine (walkMkdir_any H1.out.tre ((hb_few (by decide +kernel) H1.out.snd).mono (by decide)) 1 (whoC 0 0) _ _).mono ?_
  rintro e w3 ⟨r, rfl, hst⟩
  obtain ⟨S1, T1, h1, hr, _⟩ := H1.out.stp hst fun T' h => h.sound H1.out.snd
  obtain ⟨rfl, rfl⟩ := s7_mkdir hr
  have H2 := Lib.hid h1
  clear hst hr h1
  go_wp2_with fail
  refine (who_any _ _ _).mono ?_
  rintro e w4 ⟨rfl, hb⟩
  have H3 := Lib.hid (H2.out.below hb)
  clear hb
  go_wp2_with fail
  refine (walkChown_any H3.out.tre 1 (whoC 0 0) _ _ _).mono ?_
  rintro e w5 ⟨r, rfl, hst⟩
  obtain ⟨S2, T2, h2, hr, _⟩ := H3.out.stp hst fun T' h => h.sound H3.out.snd
  obtain ⟨rfl, rfl⟩ := s7_chown hr
  have H4 := Lib.hid h2
  clear hst hr h2
  go_wp2_with fail
  refine (who_any _ _ _).mono ?_
  rintro e w6 ⟨rfl, hb⟩
  have H5 := Lib.hid (H4.out.below hb)
  clear hb
  go_wp2_with fail
  refine (walkOpen_any H5.out.tre ((hb_few (by decide +kernel) H5.out.snd).mono (by decide)) 1 (whoC 5 5) _ ⟨2, true, false, false, false, 420⟩).mono ?_
  rintro e w7 ⟨i, r, rfl, hst⟩
  obtain ⟨S3, T3, h3, hr, _⟩ := H5.out.stp hst fun T' h => h.sound H5.out.snd
  obtain ⟨rfl, rfl, rfl⟩ := s7_open H5.out.snd hr
  have H6 := Lib.hid h3
  clear hst hr h3
  go_wp2_with fail
  refine (who_any _ _ _).mono ?_
  rintro e w8 ⟨rfl, hb⟩
  have H7 := Lib.hid (H6.out.below hb)
  clear hb
  go_wp2_with fail
  refine (walkFind_any H7.out.tre 1 (whoC 6 6) _ (k := 0) (r := 4) (by kernel_rfl)).mono ?_
  rintro e w9 ⟨he, hb⟩
  replace he : e = .returned (.tuple #[.int .i64 0, .int .i64 4]) := he
  subst he
  have H8 := Lib.hid (H7.out.below hb)
  clear hb
  go_wp2_with fail
  refine (who_any _ _ _).mono ?_
  rintro e w10 ⟨rfl, hb⟩
  have H9 := Lib.hid (H8.out.below hb)
  clear hb
  go_wp2_with fail
  refine (walkFind_any H9.out.tre 1 (whoC 0 0) _ (k := 3) (r := 0) (by kernel_rfl)).mono ?_
  rintro e w11 ⟨he, hb⟩
  replace he : e = .returned (.tuple #[.int .i64 3, .int .i64 0]) := he
  subst he
  have H10 := Lib.hid (H9.out.below hb)
  clear hb
  go_wp2_with fail
  refine (who_any _ _ _).mono ?_
  rintro e w12 ⟨rfl, hb⟩
  have H11 := Lib.hid (H10.out.below hb)
  clear hb
  go_wp2_with fail
  refine (walkRemove_any H11.out.tre 1 (whoC 6 6) _ _).mono ?_
  rintro e w13 ⟨r, rfl, hst⟩
  obtain ⟨S4, T4, h4, hr, _⟩ := H11.out.stp hst fun T' h => h.sound H11.out.snd
  obtain ⟨rfl, rfl⟩ := s7_remove hr
  have H12 := Lib.hid h4
  clear hst hr h4
  go_wp2
  go_ret
  exact ⟨rfl, H12.out.own.below⟩
end Go.Proofs.Ytafonmnfeibaiaa
namespace Go.Proofs.Ytafonmnfeibaiaa
open Go.RowKit

/-! ### WalkMakes, plainly: a path of some names -/
def pathB (l : List IT.Bytes) : IT.Bytes := l.flatMap fun n => 47 :: n
theorem pathB_snoc (l : List IT.Bytes) (n : IT.Bytes) : pathB (l ++ [n]) = pathB l ++ 47 :: n := by
  unfold pathB; rw [List.flatMap_append]; simp
theorem okN_parts {n : IT.Bytes} (h : okN n = true) : n ≠ [] ∧ n.length ≤ 14 ∧ n ≠ [46] ∧ n ≠ [46, 46] ∧ plainB n = true ∧ (47 : UInt8) ∉ n := by
  obtain ⟨h1, h2, h3, h4, h5, h6⟩ := of_decide_eq_true h
  refine ⟨h1, h2, h3, h4, h5, fun hm => h6 ?_⟩
  have := Lib.contains_iff_indexByte n 47
  rw [List.contains_iff_mem.2 hm] at this
  exact of_decide_eq_true this.symm
theorem parts_path : ∀ (l : List IT.Bytes) (r : IT.Bytes), (∀ n ∈ l, n ≠ [] ∧ (47 : UInt8) ∉ n) → (r = [] ∨ ∃ b, r = 47 :: b) → Pp.parts (pathB l ++ r) = l ++ Pp.parts r
  | [], r, _, _ => rfl
  | n :: l, r, hn, hr => by
    obtain ⟨n1, n2⟩ := hn n (by simp)
    have ih := parts_path l r (fun q hq => hn q (by simp [hq])) hr
    have e : pathB (n :: l) ++ r = [] ++ 47 :: (n ++ (pathB l ++ r)) := by unfold pathB; simp
    rw [e, Pp.parts_cut [] _ (by simp)]
    show [] ++ Pp.parts (n ++ (pathB l ++ r)) = n :: (l ++ Pp.parts r)
    rw [List.nil_append, ← ih]
    have hX : pathB l ++ r = [] ∨ ∃ b, pathB l ++ r = 47 :: b := by
      cases l with
      | nil => exact hr
      | cons q l => exact .inr ⟨_, by unfold pathB; rw [List.flatMap_cons, List.append_assoc]; rfl⟩
    rcases hX with hX | ⟨b, hX⟩
    · rw [hX, List.append_nil]
      unfold Pp.parts
      have := Pp.partsA_run n [] [] n2
      rw [List.append_nil, List.append_nil] at this
      rw [this]
      unfold Pp.partsA
      rw [if_neg (by simpa using n1), if_pos rfl, List.reverse_reverse]
    · rw [hX, Pp.parts_cut n b n2, if_neg n1]
      have := Pp.parts_cut [] b (by simp)
      rw [List.nil_append, if_pos rfl, List.nil_append] at this
      rw [this]; rfl
theorem pathB_len : ∀ (l : List IT.Bytes), (∀ n ∈ l, n.length ≤ 14) → (pathB l).length ≤ 15 * l.length
  | [], _ => Nat.le_refl _
  | n :: l, h => by
    have := pathB_len l (fun q hq => h q (by simp [hq]))
    have := h n (by simp)
    unfold pathB at *
    simp only [List.flatMap_cons, List.length_append, List.length_cons]
    omega
theorem pathB_ok : ∀ (l : List IT.Bytes), (∀ n ∈ l, plainB n = true) → (pathB l).all Pp.okb = true
  | [], _ => rfl
  | n :: l, h => by
    have := pathB_ok l (fun q hq => h q (by simp [hq]))
    have h1 := h n (by simp)
    unfold pathB at *
    rw [List.flatMap_cons, List.all_append, this, Bool.and_true, List.all_cons]
    exact Bool.and_eq_true_iff.2 ⟨by decide, h1⟩
theorem suffix_no {l0 : List IT.Bytes} {n0 : IT.Bytes} (h : n0 ≠ []) (h2 : (47 : UInt8) ∉ n0) : Lib.hasSuffix (pathB (l0 ++ [n0])) [47] = false := by
  obtain ⟨a, x, rfl⟩ : ∃ a x, n0 = a ++ [x] := ⟨n0.dropLast, n0.getLast h, (List.dropLast_concat_getLast h).symm⟩
  rw [pathB_snoc]
  have hx : x ≠ 47 := fun e => h2 (by rw [e]; simp)
  simp [Lib.hasSuffix, List.isSuffixOf, List.isPrefixOf, Ne.symm hx]
/-- What Split tells of such a path. -/
theorem split_path (l : List IT.Bytes) (hl : l ≠ []) (h4 : l.length ≤ 8) (ho : ∀ n ∈ l, okN n = true) :
    Pp.splitS (pathB l) = (true, false, l, 0) ∧ Pp.splitS (pathB l ++ [47]) = (true, true, l, 0) ∧ Pp.splitS (pathB l ++ [47, 46]) = (true, true, l, 0) := by
  have hp : ∀ n ∈ l, n ≠ [] ∧ (47 : UInt8) ∉ n := fun n hn => ⟨(okN_parts (ho n hn)).1, (okN_parts (ho n hn)).2.2.2.2.2⟩
  have h14 : ∀ n ∈ l, n.length ≤ 14 := fun n hn => (okN_parts (ho n hn)).2.1
  have hln := pathB_len l h14
  have hok := pathB_ok l (fun n hn => (okN_parts (ho n hn)).2.2.2.2.1)
  obtain ⟨c, hc⟩ : ∃ c, pathB l = 47 :: c := by
    cases l with
    | nil => exact absurd rfl hl
    | cons n l => exact ⟨_, by unfold pathB; rw [List.flatMap_cons]; rfl⟩
  obtain ⟨l0, n0, rfl⟩ : ∃ l0 n0, l = l0 ++ [n0] := (snoc l).resolve_left hl
  have hn0 := okN_parts (ho n0 (by simp))
  have hfil : (l0 ++ [n0]).filter (fun x => decide (¬ x = [46])) = l0 ++ [n0] := by
    rw [List.filter_eq_self]; exact fun x hx => decide_eq_true (okN_parts (ho x hx)).2.2.1
  have hb : ¬ ∃ x ∈ l0 ++ [n0], 14 < x.length := fun ⟨x, hx, hh⟩ => by have := h14 x hx; omega
  have hb2 : ¬ ∃ x ∈ l0 ++ [n0] ++ [[46]], 14 < x.length := fun ⟨x, hx, hh⟩ => by
    rcases List.mem_append.1 hx with hx | hx
    · have := h14 x hx; omega
    · rw [List.mem_singleton.1 hx] at hh; simp at hh
  refine ⟨?_, ?_, ?_⟩
  · have hP : Pp.parts (pathB (l0 ++ [n0])) = l0 ++ [n0] := by
      have := parts_path (l0 ++ [n0]) [] hp (.inl rfl)
      rw [List.append_nil] at this
      rw [this]; simp [Pp.parts, Pp.partsA]
    unfold Pp.splitS
    rw [if_neg (by rw [hc]; simp), hP, if_neg (fun hh => hh.elim (fun hh => by omega) hb), if_neg (by rw [hok]; decide), hfil, List.getLast?_concat]
    have e1 : Lib.hasPrefix (pathB (l0 ++ [n0])) [47] = true := by rw [hc]; simp [Lib.hasPrefix]
    have e2 : Lib.hasSuffix (pathB (l0 ++ [n0])) [47] = false := suffix_no hn0.1 hn0.2.2.2.2.2
    have e3 : ((some n0).getD [] == [46]) = false := beq_eq_false_iff_ne.2 hn0.2.2.1
    have e4 : ((some n0).getD [] == [46, 46]) = false := beq_eq_false_iff_ne.2 hn0.2.2.2.1
    rw [e1, e2, e3, e4]
    rfl
  · have hP : Pp.parts (pathB (l0 ++ [n0]) ++ [47]) = l0 ++ [n0] := by
      have := parts_path (l0 ++ [n0]) [47] hp (.inr ⟨[], rfl⟩)
      rw [this]; simp [Pp.parts, Pp.partsA]
    unfold Pp.splitS
    rw [if_neg (by simp), hP, if_neg (fun hh => hh.elim (fun hh => by rw [List.length_append] at hh; simp at hh hln h4; omega) hb), if_neg (by rw [List.all_append, hok]; decide), hfil, List.getLast?_concat]
    have e1 : Lib.hasPrefix (pathB (l0 ++ [n0]) ++ [47]) [47] = true := by rw [hc]; simp [Lib.hasPrefix]
    have e2 : Lib.hasSuffix (pathB (l0 ++ [n0]) ++ [47]) [47] = true := by simp [Lib.hasSuffix, List.isSuffixOf]
    rw [e1, e2]
    rfl
  · have hP : Pp.parts (pathB (l0 ++ [n0]) ++ [47, 46]) = l0 ++ [n0] ++ [[46]] := by
      have := parts_path (l0 ++ [n0]) [47, 46] hp (.inr ⟨[46], rfl⟩)
      rw [this]; simp [Pp.parts, Pp.partsA]
    unfold Pp.splitS
    rw [if_neg (by simp), hP, if_neg (fun hh => hh.elim (fun hh => by rw [List.length_append] at hh; simp at hh hln h4; omega) hb2), if_neg (by rw [List.all_append, hok]; decide), List.filter_append, hfil, List.getLast?_concat]
    have e1 : Lib.hasPrefix (pathB (l0 ++ [n0]) ++ [47, 46]) [47] = true := by rw [hc]; simp [Lib.hasPrefix]
    rw [e1]
    simp
end Go.Proofs.Ytafonmnfeibaiaa
namespace Go.Proofs.Ytafonmnfeibaiaa
open Go.RowKit

/-! ### WalkMakes, plainly: directories within one another -/
theorem and_small (m : Int) (c : Nat) (hc : c < 256) : ∃ j : Nat, j ≤ c ∧ bits .and .i64 m (c : Int) = (j : Int) := by
  have h2 : (BitVec.ofInt 64 (c : Int)).toNat = c := by rw [BitVec.ofInt_natCast, BitVec.toNat_ofNat]; exact Nat.mod_eq_of_lt (by omega)
  have hle : (BitVec.ofInt 64 m &&& BitVec.ofInt 64 (c : Int)).toNat ≤ c := by
    rw [BitVec.toNat_and, h2]; exact Nat.and_le_right
  have h3 : bits .and .i64 m (c : Int) = IntKind.i64.wrap ((BitVec.ofInt 64 m &&& BitVec.ofInt 64 (c : Int)).toNat : Int) := rfl
  refine ⟨_, hle, ?_⟩
  rw [h3, IntKind.wrap_i64]
  omega
theorem or_448 : ∀ j, j ≤ 63 → 448 ||| j = 448 + j := by decide +kernel
/-- The mode of each: all to its owner, and any to the others. -/
def chM (j : Nat) : Int := ((448 + j : Nat) : Int)
theorem chM_right : ∀ j, j ≤ 63 → Md.rightB (chM j) = true := by decide +kernel
theorem ch_own : ∀ j, j ≤ 63 → (1 &&& (448 + j) / 64) = 1 ∧ (2 &&& (448 + j) / 64) = 2 := by decide +kernel
theorem ch_oth : ∀ j, j ≤ 63 → ((1 &&& (448 + j)) = 1 ↔ (448 + j) &&& 1 = 1) := by decide +kernel
def chNm (l : List IT.Bytes) (k : Nat) : List (IT.Bytes × Nat) := match l[k - 1]? with
  | none => []
  | some n => [(n, k + 1)]
def chN (l : List IT.Bytes) (u : Int) (j k : Nat) : IT.Nd := if k = 1 then ⟨1, 511, 0, 0, 0, 0, [], chNm l 1, 1⟩ else ⟨1, chM j, u, 9, 0, 0, [], chNm l k, k - 1⟩
def chT (l : List IT.Bytes) (u : Int) (j : Nat) : IT.Tr := fun k => if k = 0 ∨ l.length + 1 < k then none else some (chN l u j k)
theorem chT_nil (u : Int) (j : Nat) : chT [] u j = IT.rootT 511 0 0 := by
  funext k
  unfold chT IT.rootT
  by_cases e : k = 1
  · subst e; rfl
  · rw [if_neg e, if_pos (by simp; omega)]
section
variable {l : List IT.Bytes} {u : Int} {j : Nat} (hu : 1 ≤ u) (hj : j ≤ 63)
include hu hj
theorem ch_may1 (l : List IT.Bytes) (k : Nat) : mayN (chN l u j k) (whoC u 9) 1 = true ∧ mayN (chN l u j k) (whoC u 9) 2 = true := by
  have h0 : ¬ u = 0 := by omega
  unfold chN
  by_cases e : k = 1
  · rw [if_pos e]
    unfold mayN Md.mayS whoC
    dsimp only
    rw [if_neg (by decide +kernel), if_neg h0, if_neg (by decide +kernel), if_neg h0]
    unfold Md.yS
    rw [if_neg h0, if_neg (by decide)]
    exact ⟨by decide +kernel, by decide +kernel⟩
  · rw [if_neg e]
    unfold mayN Md.mayS whoC
    dsimp only
    rw [if_neg (by rw [chM_right j hj]; decide), if_neg h0, if_neg (by rw [chM_right j hj]; decide), if_neg h0]
    unfold Md.yS
    rw [if_pos rfl]
    obtain ⟨h1, h2⟩ := ch_own j hj
    unfold chM
    rw [Int.toNat_natCast]
    exact ⟨beq_iff_eq.2 h1, beq_iff_eq.2 h2⟩
theorem ch_other_root (l : List IT.Bytes) : mayN (chN l u j 1) (whoC (u + 1) 8) 1 = true := by
  have _ := hj
  have h0 : ¬ u + 1 = 0 := by omega
  unfold chN
  rw [if_pos rfl]
  unfold mayN Md.mayS whoC
  dsimp only
  rw [if_neg (by decide +kernel), if_neg h0]
  unfold Md.yS
  rw [if_neg h0, if_neg (by decide)]
  decide +kernel
theorem ch_other (l : List IT.Bytes) (k : Nat) (hk : k ≠ 1) : mayN (chN l u j k) (whoC (u + 1) 8) 1 = ((448 + j) &&& 1 == 1) := by
  have h0 : ¬ u + 1 = 0 := by omega
  have h1 : ¬ u + 1 = u := by omega
  unfold chN
  rw [if_neg hk]
  unfold mayN Md.mayS whoC
  dsimp only
  rw [if_neg (by rw [chM_right j hj]; decide), if_neg h0]
  unfold Md.yS
  rw [if_neg h1, if_neg (by decide)]
  unfold chM
  rw [Int.toNat_natCast, Bool.eq_iff_iff, beq_iff_eq, beq_iff_eq]
  exact ch_oth j hj
end
theorem chN_kind (l : List IT.Bytes) (u : Int) (j k : Nat) : (chN l u j k).kind = 1 := by unfold chN; split <;> rfl
theorem chN_names (l : List IT.Bytes) (u : Int) (j k : Nat) (hk : 1 ≤ k) : (chN l u j k).names = chNm l k := by
  unfold chN
  split
  · rename_i h; subst h; rfl
  · rfl
theorem chT_get (l : List IT.Bytes) (u : Int) (j : Nat) {k : Nat} (h1 : 1 ≤ k) (h2 : k ≤ l.length + 1) : chT l u j k = some (chN l u j k) := by
  unfold chT; rw [if_neg (by omega)]
theorem ch_look (l : List IT.Bytes) (u : Int) (j : Nat) {k : Nat} (h1 : 1 ≤ k) (h2 : k ≤ l.length + 1) (n : IT.Bytes) (hn : okN n = true) : lookT (chT l u j) k n = if l[k - 1]? = some n then some (k + 1) else none := by
  have ho := okN_parts hn
  unfold lookT
  rw [chT_get l u j h1 h2]
  dsimp only
  rw [if_neg (by rw [chN_kind]; decide), if_neg ho.2.2.1, if_neg ho.2.2.2.1, chN_names l u j k h1]
  unfold chNm IT.findN
  cases hl : l[k - 1]? with
  | none => rw [if_neg (fun e => by cases e)]; rfl
  | some q =>
    by_cases e : q = n
    · subst e; rw [if_pos rfl]; simp
    · rw [if_neg (fun h => e (Option.some.inj h))]; simp [e]
/-- One goes down by the first names, as long as one may. -/
theorem ch_down (l : List IT.Bytes) (u : Int) (j : Nat) (c : Cr) (ho : ∀ n ∈ l, okN n = true) : ∀ (d k : Nat), k + d ≤ l.length → (∀ i, k + 1 ≤ i → i < k + 1 + d → mayN (chN l u j i) c 1 = true) → downT (chT l u j) c (k + 1) ((l.drop k).take d) = (k + d + 1, 0)
  | 0, k, _, _ => by rw [List.take_zero]; rfl
  | d + 1, k, h, hm => by
    have hk : k < l.length := by omega
    rw [List.drop_eq_getElem_cons hk, List.take_succ_cons]
    unfold downT
    rw [chT_get l u j (by omega) (by omega)]
    dsimp only
    have he : entersE (chN l u j (k + 1)) c = 0 := by
      unfold entersE
      rw [if_neg (by rw [chN_kind]; decide), if_neg (by rw [hm (k + 1) (by omega) (by omega)]; decide)]
    rw [if_neg (by rw [he]; decide), ch_look l u j (by omega) (by omega) _ (ho _ (List.getElem_mem hk)), Nat.add_sub_cancel, if_pos (List.getElem?_eq_getElem hk)]
    dsimp only
    rw [ch_down l u j c ho d (k + 1) (by omega) (fun i h1 h2 => hm i (by omega) (by omega))]
    congr 1
    omega
/-- Or one is stopped. -/
theorem ch_stop (l : List IT.Bytes) (u : Int) (j : Nat) (c : Cr) (ho : ∀ n ∈ l, okN n = true) : ∀ (d k : Nat), k + d = l.length → (∃ i, k + 1 ≤ i ∧ i < k + 1 + d ∧ mayN (chN l u j i) c 1 = false) → downT (chT l u j) c (k + 1) (l.drop k) = (0, 4)
  | 0, k, _, hm => by obtain ⟨i, h1, h2, _⟩ := hm; omega
  | d + 1, k, h, hm => by
    have hk : k < l.length := by omega
    rw [List.drop_eq_getElem_cons hk]
    unfold downT
    rw [chT_get l u j (by omega) (by omega)]
    dsimp only
    cases hmy : mayN (chN l u j (k + 1)) c 1 with
    | false =>
      have he : entersE (chN l u j (k + 1)) c = 4 := by
        unfold entersE
        rw [if_neg (by rw [chN_kind]; decide), if_pos hmy]
      rw [he, if_pos (by decide)]
    | true =>
      have he : entersE (chN l u j (k + 1)) c = 0 := by
        unfold entersE
        rw [if_neg (by rw [chN_kind]; decide), if_neg (by rw [hmy]; decide)]
      rw [if_neg (by rw [he]; decide), ch_look l u j (by omega) (by omega) _ (ho _ (List.getElem_mem hk)), Nat.add_sub_cancel, if_pos (List.getElem?_eq_getElem hk)]
      dsimp only
      obtain ⟨i, h1, h2, h3⟩ := hm
      exact ch_stop l u j c ho d (k + 1) (by omega) ⟨i, by
        by_cases e : i = k + 1
        · subst e; rw [hmy] at h3; cases h3
        · omega, by omega, h3⟩
end Go.Proofs.Ytafonmnfeibaiaa
namespace Go.Proofs.Ytafonmnfeibaiaa
open Go.RowKit

/-! ### WalkMakes, plainly: what each call answers -/
section
variable {l : List IT.Bytes} {n : IT.Bytes} {u : Int} {j : Nat} (hu : 1 ≤ u) (hj : j ≤ 63) (hl : l.length ≤ 4) (ho : ∀ q ∈ l ++ [n], okN q = true)
include hu hj hl ho
theorem ch_down_all : downT (chT l u j) (whoC u 9) 1 l = (l.length + 1, 0) := by
  have _ := hl
  have h := ch_down l u j (whoC u 9) (fun q hq => ho q (by simp [hq])) l.length 0 (by omega) (fun i _ _ => (ch_may1 hu hj l i).1)
  rw [List.drop_zero, List.take_length] at h
  rw [h]
  congr 1
  omega
theorem ch_entry : entryT (chT l u j) (whoC u 9) 1 (pathB (l ++ [n])) = .ok ⟨l.length + 1, n, false, none⟩ := by
  have hs := (split_path (l ++ [n]) (by simp) (by simp; omega) ho).1
  have hn := ho n (by simp)
  unfold entryT
  rw [hs]
  dsimp only
  rw [if_neg (by decide), if_neg (by rw [List.getLast?_concat]; exact fun hh => hh.elim (by simp) (fun hh => (okN_parts hn).2.2.2.1 (Option.some.inj hh))), List.dropLast_concat]
  have hg : goT (chT l u j) (whoC u 9) 1 true l = (l.length + 1, 0) := by
    unfold goT startT
    rw [if_pos rfl, chT_get l u j (by omega) (by omega), if_neg (fun e => by cases e)]
    exact ch_down_all hu hj hl ho
  rw [hg, if_neg (fun hh => hh rfl)]
  dsimp only
  rw [chT_get l u j (by omega) (by omega)]
  dsimp only
  have he : entersE (chN l u j (l.length + 1)) (whoC u 9) = 0 := by
    unfold entersE
    rw [if_neg (by rw [chN_kind]; decide), if_neg (by rw [(ch_may1 hu hj l _).1]; decide)]
  rw [if_neg (by rw [he]; decide), List.getLast?_concat, Option.getD_some, ch_look l u j (by omega) (by omega) n hn, Nat.add_sub_cancel, List.getElem?_eq_none (by omega), if_neg (fun e => by cases e)]
theorem ch_free : FreeAt (chT l u j) (l.length + 2) := by
  have _ := And.intro hu hj
  have _ := ho
  refine ⟨by omega, by omega, ?_, fun k h1 h2 => ?_⟩
  · unfold chT; rw [if_pos (by omega)]
  · rw [chT_get l u j h1 (by omega)]; exact fun e => by cases e
theorem ch_step : IT.entT (IT.upd (chT l u j) (l.length + 2) (some { newN (whoC u 9) 1 (chM j) (l.length + 2) with holds := 0 })) (l.length + 1) (l.length + 2) n (chN l u j (l.length + 1)) { newN (whoC u 9) 1 (chM j) (l.length + 2) with holds := 0 } = chT (l ++ [n]) u j := by
  have _ := And.intro hu hj
  have _ := And.intro ho hl
  have hle : (l ++ [n]).length = l.length + 1 := by simp
  have hnm0 : chNm l (l.length + 1) = [] := by unfold chNm; rw [Nat.add_sub_cancel, List.getElem?_eq_none (by omega)]
  have hnm1 : chNm (l ++ [n]) (l.length + 1) = [(n, l.length + 2)] := by unfold chNm; rw [Nat.add_sub_cancel, List.getElem?_concat_length]
  have hnm2 : chNm (l ++ [n]) (l.length + 2) = [] := by unfold chNm; rw [List.getElem?_eq_none (by simp)]
  funext k
  unfold IT.entT IT.upd
  by_cases a : k = l.length + 1
  · rw [if_pos a, a, chT_get (l ++ [n]) u j (by omega) (by omega)]
    by_cases e : l = []
    · subst e; rfl
    · have e0 : 0 < l.length := List.length_pos_iff.2 e
      unfold chN
      rw [hnm0, hnm1, if_neg (show ¬ l.length + 1 = 1 by omega), if_neg (show ¬ l.length + 1 = 1 by omega)]; rfl
  · rw [if_neg a]
    by_cases b : k = l.length + 2
    · rw [if_pos b, b, chT_get (l ++ [n]) u j (by omega) (by omega)]
      unfold chN newN IT.under
      rw [if_neg (show ¬ l.length + 2 = 1 by omega), hnm2]
      rfl
    · rw [if_neg b, if_neg b]
      unfold chT
      by_cases c : k = 0 ∨ l.length + 1 < k
      · rw [if_pos c, if_pos (by omega)]
      · rw [if_neg c, if_neg (by omega)]
        unfold chN chNm
        have hk : k - 1 < l.length := by omega
        by_cases e : k = 1
        · subst e
          rw [if_pos rfl, if_pos rfl, List.getElem?_append_left (by omega)]
        · rw [if_neg e, if_neg e, List.getElem?_append_left hk]
theorem ch_mkdir (hsn : IT.Sound okN (chT l u j)) {r : Int} {T' : IT.Tr} (hu2 : u ≤ 65535) (h : isMkdir (chT l u j) (whoC u 9) 1 (pathB (l ++ [n])) (chM j) r T') : r = 0 ∧ T' = chT (l ++ [n]) u j := by
  have hnm0 : chNm l (l.length + 1) = [] := by unfold chNm; rw [Nat.add_sub_cancel, List.getElem?_eq_none (by omega)]
  have hnn := chN_names l u j (l.length + 1) (by omega)
  have := mkdir_new hsn (ch_entry hu hj hl ho) (chT_get l u j (by omega) (by omega)) (chN_kind l u j _) (ho n (by simp)) (by rw [hnn, hnm0]; rfl) (by rw [hnn, hnm0]; decide) (chM_right j hj) (ch_may1 hu hj l _).2 (by
    show rightB (chM j) u 9 = true
    have h1 := chM_right j hj
    unfold Md.rightB at h1
    unfold rightB
    rw [h1, Bool.true_and]
    exact decide_eq_true ⟨by omega, by omega, hu2, by omega⟩) (ch_free hu hj hl ho) h
  rw [ch_step hu hj hl ho] at this
  exact this
theorem ch_entry2 : entryT (chT (l ++ [n]) u j) (whoC u 9) 1 (pathB (l ++ [n])) = .ok ⟨l.length + 1, n, false, some (l.length + 2)⟩ := by
  have hs := (split_path (l ++ [n]) (by simp) (by simp; omega) ho).1
  have hn := ho n (by simp)
  have hle : (l ++ [n]).length = l.length + 1 := by simp
  unfold entryT
  rw [hs]
  dsimp only
  rw [if_neg (by decide), if_neg (by rw [List.getLast?_concat]; exact fun hh => hh.elim (by simp) (fun hh => (okN_parts hn).2.2.2.1 (Option.some.inj hh))), List.dropLast_concat]
  have hg : goT (chT (l ++ [n]) u j) (whoC u 9) 1 true l = (l.length + 1, 0) := by
    unfold goT startT
    rw [if_pos rfl, chT_get (l ++ [n]) u j (by omega) (by omega), if_neg (fun e => by cases e)]
    have h := ch_down (l ++ [n]) u j (whoC u 9) ho l.length 0 (by omega) (fun i _ _ => (ch_may1 hu hj (l ++ [n]) i).1)
    rw [List.drop_zero, List.take_left] at h
    rw [h]
    congr 1
    omega
  rw [hg, if_neg (fun hh => hh rfl)]
  dsimp only
  rw [chT_get (l ++ [n]) u j (by omega) (by omega)]
  dsimp only
  have he : entersE (chN (l ++ [n]) u j (l.length + 1)) (whoC u 9) = 0 := by
    unfold entersE
    rw [if_neg (by rw [chN_kind]; decide), if_neg (by rw [(ch_may1 hu hj (l ++ [n]) _).1]; decide)]
  rw [if_neg (by rw [he]; decide), List.getLast?_concat, Option.getD_some, ch_look (l ++ [n]) u j (by omega) (by omega) n hn, Nat.add_sub_cancel, List.getElem?_concat_length, if_pos rfl]
theorem ch_mkdir2 {r : Int} {T' : IT.Tr} (h : isMkdir (chT (l ++ [n]) u j) (whoC u 9) 1 (pathB (l ++ [n])) (chM j) r T') : r = 5 ∧ T' = chT (l ++ [n]) u j := by
  unfold isMkdir at h
  rw [if_neg (by rw [chM_right j hj]; decide), ch_entry2 hu hj hl ho] at h
  dsimp only at h
  rw [if_pos (show (some (l.length + 2)).isSome = true from rfl)] at h
  exact h
theorem ch_find : findT (chT (l ++ [n]) u j) (whoC u 9) 1 (pathB (l ++ [n]) ++ [47]) = (l.length + 2, 0) := by
  have hs := (split_path (l ++ [n]) (by simp) (by simp; omega) ho).2.1
  have hle : (l ++ [n]).length = l.length + 1 := by simp
  have hg : goT (chT (l ++ [n]) u j) (whoC u 9) 1 true (l ++ [n]) = (l.length + 2, 0) := by
    unfold goT startT
    rw [if_pos rfl, chT_get (l ++ [n]) u j (by omega) (by omega), if_neg (fun e => by cases e)]
    have h := ch_down (l ++ [n]) u j (whoC u 9) ho (l ++ [n]).length 0 (by omega) (fun i _ _ => (ch_may1 hu hj (l ++ [n]) i).1)
    rw [List.drop_zero, List.take_length] at h
    rw [h]
    congr 1
    omega
  unfold findT
  rw [hs]
  dsimp only
  rw [if_neg (by decide), hg, if_neg (fun hh => hh rfl), if_neg]
  dsimp only
  unfold kindT
  rw [chT_get (l ++ [n]) u j (by omega) (by omega)]
  exact fun hh => hh.2 (chN_kind _ _ _ _)
theorem ch_find2 (hm : l = [] ∨ (448 + j) &&& 1 = 1) : findT (chT (l ++ [n]) u j) (whoC (u + 1) 8) 1 (pathB (l ++ [n]) ++ [47, 46]) = (l.length + 2, 0) := by
  have hs := (split_path (l ++ [n]) (by simp) (by simp; omega) ho).2.2
  have hle : (l ++ [n]).length = l.length + 1 := by simp
  have hg : goT (chT (l ++ [n]) u j) (whoC (u + 1) 8) 1 true (l ++ [n]) = (l.length + 2, 0) := by
    unfold goT startT
    rw [if_pos rfl, chT_get (l ++ [n]) u j (by omega) (by omega), if_neg (fun e => by cases e)]
    have h := ch_down (l ++ [n]) u j (whoC (u + 1) 8) ho (l ++ [n]).length 0 (by omega) (fun i h1 h2 => by
      by_cases e : i = 1
      · subst e; exact ch_other_root hu hj (l ++ [n])
      · rw [ch_other hu hj (l ++ [n]) i e]
        rcases hm with hm | hm
        · subst hm; simp at h2; omega
        · exact beq_iff_eq.2 hm)
    rw [List.drop_zero, List.take_length] at h
    rw [h]
    congr 1
    omega
  unfold findT
  rw [hs]
  dsimp only
  rw [if_neg (by decide), hg, if_neg (fun hh => hh rfl), if_neg]
  dsimp only
  unfold kindT
  rw [chT_get (l ++ [n]) u j (by omega) (by omega)]
  exact fun hh => hh.2 (chN_kind _ _ _ _)
theorem ch_find3 (hm : l ≠ []) (hz : ¬ (448 + j) &&& 1 = 1) : findT (chT (l ++ [n]) u j) (whoC (u + 1) 8) 1 (pathB (l ++ [n]) ++ [47, 46]) = (0, 4) := by
  have hs := (split_path (l ++ [n]) (by simp) (by simp; omega) ho).2.2
  have hlp : 0 < l.length := List.length_pos_iff.2 hm
  have hg : goT (chT (l ++ [n]) u j) (whoC (u + 1) 8) 1 true (l ++ [n]) = (0, 4) := by
    unfold goT startT
    rw [if_pos rfl, chT_get (l ++ [n]) u j (by omega) (by omega), if_neg (fun e => by cases e)]
    have h := ch_stop (l ++ [n]) u j (whoC (u + 1) 8) ho (l ++ [n]).length 0 (by omega) ⟨2, by omega, by simp; omega, by
      rw [ch_other hu hj (l ++ [n]) 2 (by decide)]; exact beq_eq_false_iff_ne.2 hz⟩
    rw [List.drop_zero] at h
    exact h
  unfold findT
  rw [hs]
  dsimp only
  rw [if_neg (by decide), hg, if_pos (by decide)]
theorem ch_stat : ∃ a : Int, statV (chT (l ++ [n]) u j) (l.length + 2) = infoV (l.length + 2 : Nat) 1 (chM j) u 9 a 0 0 ∧ (chT (l ++ [n]) u j (l.length + 2)).isSome = true := by
  have hle : (l ++ [n]).length = l.length + 1 := by simp
  have hnm2 : chNm (l ++ [n]) (l.length + 2) = [] := by unfold chNm; rw [List.getElem?_eq_none (by simp)]
  have hg := chT_get (l ++ [n]) u j (k := l.length + 2) (by omega) (by omega)
  have _ := And.intro hu hj
  have _ := And.intro ho hl
  refine ⟨(IT.lnk (chT (l ++ [n]) u j) (l.length + 2) : Nat), ?_, by rw [hg]; rfl⟩
  rw [stat_infoV hg]
  unfold chN
  rw [if_neg (by omega), hnm2]
  rfl
end
theorem ch_hb (l : List IT.Bytes) (u : Int) (j : Nat) : HB (chT l u j) 1000 := fun k m hk => by
  unfold chT at hk
  split at hk
  · cases hk
  · obtain rfl := Option.some.inj hk
    unfold chN
    split <;> exact Nat.zero_le _
end Go.Proofs.Ytafonmnfeibaiaa
namespace Go.Proofs.Ytafonmnfeibaiaa
open Go.RowKit

/-- A row of texts that came in. -/
def Strs (w : World) (B : Nat) (a : Option Addr) (len : Nat) : Prop := ∀ j, j < len → ∃ b off s, a = some ⟨b, off, none⟩ ∧ b < B ∧ w.cell? ⟨b, off + j, none⟩ = some (.string s) ∧ s.size ≤ maxLen
def Bools (w : World) (B : Nat) (a : Option Addr) (len : Nat) : Prop := ∀ j, j < len → ∃ b off x, a = some ⟨b, off, none⟩ ∧ b < B ∧ w.cell? ⟨b, off + j, none⟩ = some (.bool x)
def byt : IT.Bytes := [98, 121, 116, 101, 115]
def ms1 : IT.Tr := IT.upd (IT.rootT 493 0 0) 2 (some (IT.dirN 493 [] 1 2))
def ms2 : IT.Tr := IT.upd ms1 3 (some (IT.dirN 493 [] 1 3))
def ms3 : IT.Tr := IT.upd ms2 4 (some (IT.fileN []))
def ms4 : IT.Tr := IT.entT ms3 1 2 [97] (IT.dirN 493 [] 0 1) (IT.dirN 493 [] 1 2)
def ms5 : IT.Tr := IT.entT ms4 1 3 [98] (IT.dirN 493 [([97], 2)] 0 1) (IT.dirN 493 [] 1 3)
def ms6 : IT.Tr := IT.entT ms5 2 4 [102] (IT.dirN 493 [] 1 1) (IT.fileN [])
def ms7 : IT.Tr := IT.upd ms6 4 (some (IT.fileN byt))
theorem rt493 : rt 493 0 0 := by unfold rt; decide +kernel
theorem rt420 : rt 420 0 0 := by unfold rt; decide +kernel
/-- The first that is free. -/
theorem made {T T' : IT.Tr} {kind mo : Int} {i : Nat} {r : Int} (h : IT.isMake rt T kind mo 0 0 0 i r T') (hr : rt mo 0 0) (hk : kind = 0 ∨ kind = 1) {j : Nat} (hj1 : 1 ≤ j) (hj2 : j ≤ 200) (hj : T j = none) (hf : ∀ k, 1 ≤ k → k < j → T k ≠ none) :
    i = j ∧ r = 0 ∧ T' = IT.upd T j (some ⟨kind, mo, 0, 0, if kind = 2 then 0 else 0, 1, [], [], if kind = 1 then j else 0⟩) := by
  unfold IT.isMake at h
  rw [if_neg (by rintro (a | a | a); omega; omega; exact a hr), if_neg (by omega), if_neg (fun hh => hh j hj1 hj2 hj)] at h
  obtain ⟨h1, h2, h3, h4, h5, h6⟩ := h
  have hi : i = j := by
    by_cases e : i < j
    · exact absurd h4 (hf i h2 e)
    · by_cases e2 : j < i
      · exact absurd hj (h5 j hj1 e2)
      · omega
  subst hi
  exact ⟨rfl, h1, h6⟩
theorem ms_make1 {i : Nat} {r : Int} {T' : IT.Tr} (h : IT.isMake rt (IT.rootT 493 0 0) 1 493 0 0 0 i r T') : i = 2 ∧ r = 0 ∧ T' = ms1 := by
  refine made (j := 2) h rt493 (.inr rfl) (by omega) (by omega) rfl (fun k h1 h2 => ?_)
  obtain rfl : k = 1 := by omega
  intro e; cases e
theorem ms_make2 {i : Nat} {r : Int} {T' : IT.Tr} (h : IT.isMake rt ms1 1 493 0 0 0 i r T') : i = 3 ∧ r = 0 ∧ T' = ms2 := by
  refine made (j := 3) h rt493 (.inr rfl) (by omega) (by omega) rfl (fun k h1 h2 => ?_)
  rcases (show k = 1 ∨ k = 2 by omega) with rfl | rfl <;> (intro e; cases e)
theorem ms_make3 {i : Nat} {r : Int} {T' : IT.Tr} (h : IT.isMake rt ms2 0 420 0 0 0 i r T') : i = 4 ∧ r = 0 ∧ T' = ms3 := by
  refine made (j := 4) h rt420 (.inl rfl) (by omega) (by omega) rfl (fun k h1 h2 => ?_)
  rcases (show k = 1 ∨ k = 2 ∨ k = 3 by omega) with rfl | rfl | rfl <;> (intro e; cases e)
/-- An entry where there is none. -/
theorem entered_ok {T T' : IT.Tr} {d x : Nat} {nm : IT.Bytes} {r : Int} (h : IT.isEnter okN T d nm x r T') {n m : IT.Nd} (hd : T d = some n) (hx : T x = some m) (hk : n.kind = 1) (hok : okN nm = true) (hf : IT.findN nm n.names = none) (hx1 : x ≠ 1) (hl : IT.lnk T x = 0) (hn : n.names.length < 40) (hb : m.kind = 1 → ¬ IT.Bel T x d) : r = 0 ∧ T' = IT.entT T d x nm n m := by
  unfold IT.isEnter at h
  rw [hd, hx] at h
  dsimp only at h
  rw [if_neg (fun hh => hh hk), if_neg (by rw [hok]; intro e; cases e), if_neg (fun hh => hh hf), if_neg (by rw [hl]; omega), if_neg (by omega), if_neg (fun hh => hb hh.1 hh.2)] at h
  exact h
set_option maxRecDepth 100000 in
theorem ms_enter1 {r : Int} {T' : IT.Tr} (h : IT.isEnter okN ms3 1 [97] 2 r T') : r = 0 ∧ T' = ms4 :=
  entered_ok h (show ms3 1 = some (IT.dirN 493 [] 0 1) by decide +kernel) (show ms3 2 = some (IT.dirN 493 [] 1 2) by decide +kernel) rfl (by decide +kernel) rfl (by decide) (by decide +kernel) (by decide) (fun _ => IT.bel_top (show ms3 1 = some (IT.dirN 493 [] 0 1) by decide +kernel) (by decide) rfl)
set_option maxRecDepth 100000 in
theorem ms_enter2 {r : Int} {T' : IT.Tr} (h : IT.isEnter okN ms4 1 [98] 3 r T') : r = 0 ∧ T' = ms5 :=
  entered_ok h (show ms4 1 = some (IT.dirN 493 [([97], 2)] 0 1) by decide +kernel) (show ms4 3 = some (IT.dirN 493 [] 1 3) by decide +kernel) rfl (by decide +kernel) (by decide +kernel) (by decide) (by decide +kernel) (by decide) (fun _ => IT.bel_top (show ms4 1 = some (IT.dirN 493 [([97], 2)] 0 1) by decide +kernel) (by decide) rfl)
set_option maxRecDepth 100000 in
theorem ms_enter3 {r : Int} {T' : IT.Tr} (h : IT.isEnter okN ms5 2 [102] 4 r T') : r = 0 ∧ T' = ms6 :=
  entered_ok h (show ms5 2 = some (IT.dirN 493 [] 1 1) by decide +kernel) (show ms5 4 = some (IT.fileN []) by decide +kernel) rfl (by decide +kernel) rfl (by decide) (by decide +kernel) (by decide) (fun hh => absurd hh (by decide))
set_option maxRecDepth 100000 in
theorem ms_put {r : Int} {T' : IT.Tr} (h : IT.isPut ms6 4 0 byt r T') : r = 0 ∧ T' = ms7 := by
  unfold IT.isPut at h
  rw [show ms6 4 = some (IT.fileN []) by decide +kernel] at h
  dsimp only at h
  rw [if_neg (by decide), if_neg (by decide), if_neg (by decide), if_neg (by decide)] at h
  exact h
set_option maxRecDepth 100000 in
theorem ms_is : ms7 = IT.movesT byt 2 [102] := by
  funext k
  by_cases h1 : k = 1
  · subst h1; decide +kernel
  by_cases h2 : k = 2
  · subst h2; decide +kernel
  by_cases h3 : k = 3
  · subst h3; decide +kernel
  by_cases h4 : k = 4
  · subst h4; decide +kernel
  unfold IT.movesT ms7 ms6 ms5 ms4 ms3 ms2 ms1 IT.entT IT.upd IT.rootT
  simp only [h1, h2, h3, h4, if_false]
theorem mv_look {d : Nat} (hd : d = 2 ∨ d = 3) {nm : IT.Bytes} (hok : okN nm = true) : lookT (IT.movesT byt d nm) d nm = some 4 := by
  have h2 := of_decide_eq_true hok
  have e : IT.movesT byt d nm d = some (IT.dirN 493 [(nm, 4)] 1 1) := by rcases hd with rfl | rfl <;> rfl
  unfold lookT
  rw [e]
  dsimp only
  rw [if_neg (fun hh => hh rfl), if_neg h2.2.2.1, if_neg h2.2.2.2.1]
  show IT.findN nm [(nm, 4)] = some 4
  unfold IT.findN; simp
theorem mv_names {d : Nat} (hd : d = 2 ∨ d = 3) (nm : IT.Bytes) : (namesT (IT.movesT byt d nm) 2).length = (if d = 2 then 1 else 0) ∧ (namesT (IT.movesT byt d nm) 3).length = (if d = 2 then 0 else 1) := by
  rcases hd with rfl | rfl <;> exact ⟨rfl, rfl⟩
theorem mv_lnk {d : Nat} (hd : d = 2 ∨ d = 3) (nm : IT.Bytes) : IT.lnk (IT.movesT byt d nm) 4 = 1 := by
  rcases hd with rfl | rfl <;> kernel_rfl

theorem mv_stat {d : Nat} (hd : d = 2 ∨ d = 3) (nm : IT.Bytes) : statV (IT.movesT byt d nm) 4 = .agg #[.int .i64 4, .int .i64 0, .int .i64 420, .int .i64 0, .int .i64 0, .int .i64 1, .int .i64 5, .int .i64 0] := by
  show infoT (IT.movesT byt d nm) 4 (IT.fileN byt) = _
  unfold infoT
  rw [mv_lnk hd]; rfl
theorem ok_x : okN [120] = true := by decide +kernel
theorem ok_y : okN [121] = true := by decide +kernel
theorem ok_z : okN [122] = true := by decide +kernel
theorem ret_boolE {a b : Bool} (h : a = b) : Ending.returned (.bool a) = .returned (.bool b) := by rw [h]
theorem names_len {w : World} {t : Nat} {S : Tab} {T : IT.Tr} (h : Tre w t S T) (ki : Int) {n : Nat} (hn : (namesT T ki.toNat).length = n) :
    Calls Try.prog 27 #[.pointer (some ⟨t, 0, none⟩), .int .i64 ki] w fun e w' => ∃ a cap, e = .returned (.slice a n cap) ∧ Below w.heap.size w w' :=
  (names_any h ki).mono (by
    rintro e w' ⟨v, rfl, hr, _, hb⟩
    rcases hr.2 with ⟨rfl, h0⟩ | ⟨g, cap, _, rfl, _⟩
    · exact ⟨none, 0, by rw [← hn, h0], hb⟩
    · exact ⟨_, cap, by rw [← hn], hb⟩)
/-- Where the loop of InodeMoves stands. -/
def MovIn (B : Nat) (w0 wr : World) (t : Nat) (di : Int) (nm : ByteArray) : Prop := (di = 2 ∨ di = 3) ∧ okN (bs nm) = true ∧ ∃ S, Tro B w0 wr t S (IT.movesT byt di.toNat (bs nm))
theorem nm_x (s : ByteArray) (l : List UInt8) (h : ¬ bs s = l) : (s.toList == l) = false := by
  rw [ByteArray.toList_eq]; exact beq_eq_false_iff_ne.2 h
set_option maxRecDepth 100000 in
set_option maxHeartbeats 4000000 in
theorem moves_any (a0 a1 : Option Addr) (len0 cap0 len1 cap1 : Nat) (w : World) (hl0 : len0 ≤ maxLen) (hl1 : len1 ≤ maxLen) (h0 : Strs w w.heap.size a0 len0) (h1 : Bools w w.heap.size a1 len1) :
    Calls Try.prog 5 #[.slice a0 len0 cap0, .slice a1 len1 cap1] w fun e w' => e = .returned (.bool true) ∧ Below w.heap.size w w' := by
  unfold maxLen at hl0 hl1
  have HS := Lib.hid h0
  have HN := Lib.hid h1
  clear h0 h1
  go_enter Try.func5, Try.ntmps5
  go_wp2_with fail
  refine (shown_any w).mono ?_
  rintro e w1 ⟨rfl, hb⟩
  have HB1 := Lib.hid hb
  clear hb
  go_wp2_with fail
  refine (new_ok _ _ _ _ (by decide +kernel)).mono ?_
  rintro e w2 ⟨t, S0, rfl, ho⟩
  have H0 := Lib.hid ho
  clear ho
  go_wp2_with fail
  refine (make_any H0.out.tre _ _ _ _ _).mono ?_
  rintro e w3 ⟨i, r, rfl, hst⟩
  obtain ⟨S1, T1, h1, hr, _⟩ := H0.out.stp hst fun T' h => h.sound H0.out.snd
  obtain ⟨rfl, rfl, rfl⟩ := ms_make1 hr
  have H1 := Lib.hid h1
  clear hst hr h1
  go_wp2_with fail
  refine (make_any H1.out.tre _ _ _ _ _).mono ?_
  rintro e w4 ⟨i, r, rfl, hst⟩
  obtain ⟨S2, T2, h2, hr, _⟩ := H1.out.stp hst fun T' h => h.sound H1.out.snd
  obtain ⟨rfl, rfl, rfl⟩ := ms_make2 hr
  have H2 := Lib.hid h2
  clear hst hr h2
  go_wp2_with fail
  refine (make_any H2.out.tre _ _ _ _ _).mono ?_
  rintro e w5 ⟨i, r, rfl, hst⟩
  obtain ⟨S3, T3, h3, hr, _⟩ := H2.out.stp hst fun T' h => h.sound H2.out.snd
  obtain ⟨rfl, rfl, rfl⟩ := ms_make3 hr
  have H3 := Lib.hid h3
  clear hst hr h3
  go_wp2_with fail
  refine (enter_any H3.out.tre 1 2 _).mono ?_
  rintro e w6 ⟨r, rfl, hst⟩
  obtain ⟨S4, T4, h4, hr, _⟩ := H3.out.stp hst fun T' h => h.sound H3.out.snd
  obtain ⟨rfl, rfl⟩ := ms_enter1 hr
  have H4 := Lib.hid h4
  clear hst hr h4
  go_wp2_with fail
  refine (enter_any H4.out.tre 1 3 _).mono ?_
  rintro e w7 ⟨r, rfl, hst⟩
  obtain ⟨S5, T5, h5, hr, _⟩ := H4.out.stp hst fun T' h => h.sound H4.out.snd
  obtain ⟨rfl, rfl⟩ := ms_enter2 hr
  have H5 := Lib.hid h5
  clear hst hr h5
  go_wp2_with fail
  refine (enter_any H5.out.tre 2 4 _).mono ?_
  rintro e w8 ⟨r, rfl, hst⟩
  obtain ⟨S6, T6, h6, hr, _⟩ := H5.out.stp hst fun T' h => h.sound H5.out.snd
  obtain ⟨rfl, rfl⟩ := ms_enter3 hr
  have H6 := Lib.hid h6
  clear hst hr h6
  go_wp2_with fail
  refine (put_any H6.out.tre 4 0 _).mono ?_
  rintro e w9 ⟨r, rfl, hst⟩
  obtain ⟨S7, T7, h7, hr, _⟩ := H6.out.stp hst fun T' h => h.sound H6.out.snd
  obtain ⟨rfl, rfl⟩ := ms_put hr
  rw [ms_is] at h7
  have HI : Hid (MovIn w1.heap.size w1 w9 t 2 ⟨#[102]⟩) := Lib.hid ⟨.inl rfl, by decide +kernel, S7, h7⟩
  clear hst hr h7 H0 H1 H2 H3 H4 H5 H6
  go_wp2_with fail
  go_loopw [13, 14, 15] (fun dv nv iv wr => ∃ (k : Nat) (di : Int) (nm : ByteArray), iv = .int .i64 k ∧ k ≤ 50 ∧ dv = .int .i64 di ∧ nv = .string nm ∧ MovIn w1.heap.size w1 wr t di nm) (fun _ _ iv _ => 50 - (intOf iv).toNat)
  case atStart => exact ⟨0, 2, ⟨#[102]⟩, rfl, by omega, rfl, rfl, HI.out⟩
  case round =>
    clear HI
    obtain ⟨k, di, nm, rfl, hk, rfl, rfl, hin⟩ := hrel
    have HI := Lib.hid hin
    clear hin
    by_cases hc : k < len0 ∧ k < len1 ∧ k < 50
    · obtain ⟨k0, k1, k50⟩ := hc
      obtain ⟨ba, oa, s, rfl, hba, hs, hsl⟩ := HS.out k k0
      obtain ⟨bb, ob, x, rfl, hbb, hx⟩ := HN.out k k1
      obtain ⟨hdi, hok, S, ho⟩ := HI.out
      have HO := Lib.hid ho
      have HDI := Lib.hid hdi
      have HOK := Lib.hid hok
      clear ho hdi hok
      have hs' : wr.cell? ⟨ba, oa + k, none⟩ = some (.string s) := by rw [HO.out.own.below.cell (p := ⟨ba, oa + k, none⟩) (by have := HB1.out.size; simp; omega), HB1.out.cell (p := ⟨ba, oa + k, none⟩) hba]; exact hs
      have hx' : wr.cell? ⟨bb, ob + k, none⟩ = some (.bool x) := by rw [HO.out.own.below.cell (p := ⟨bb, ob + k, none⟩) (by have := HB1.out.size; simp; omega), HB1.out.cell (p := ⟨bb, ob + k, none⟩) hbb]; exact hx
      have hk0 : (k : Int) < len0 := by omega
      have hk1 : (k : Int) < len1 := by omega
      have hk50 : (k : Int) < 50 := by omega
      have HSC := Lib.hid hs
      clear hs hx
      cases x with
      | false =>
        go_wp2_with fail
        refine (move_any HO.out.tre di 2 _ _).mono ?_
        rintro e w10 ⟨r, rfl, hst⟩
        obtain ⟨S', T', hq, hr, _⟩ := HO.out.stp hst fun T' h => h.sound HO.out.snd
        rcases IT.moves_step (by have := HDI.out; omega) (.inl rfl) hr with ⟨hok2, rfl, rfl⟩ | ⟨hok2, rfl, rfl⟩
        · have HQ := Lib.hid hq
          have HOK2 := Lib.hid hok2
          have HD2 : Hid ((2 : Int).toNat = 2 ∨ (2 : Int).toNat = 3) := Lib.hid (.inl rfl)
          have hs2 : w10.cell? ⟨ba, oa + k, none⟩ = some (.string s) := by rw [HQ.out.own.below.cell (p := ⟨ba, oa + k, none⟩) (by have := HB1.out.size; simp; omega), HB1.out.cell (p := ⟨ba, oa + k, none⟩) hba]; exact HSC.out
          clear hst hr hq hs' hx' HO
          go_wp2_with fail
          refine (rname_ok _ _).mono ?_
          rintro e wn ⟨rfl, rfl⟩
          go_wp2_with fail
          refine (look_any HQ.out.tre 2 _).mono ?_
          rintro e wl ⟨he, rfl⟩
          replace he : e = .returned (.tuple #[.int .i64 4, .bool true]) := he.trans (congrArg (fun o => Ending.returned (lookV o)) (mv_look (.inl rfl) HOK2.out))
          subst he
          go_wp2_with fail
          refine (names_len HQ.out.tre 2 (mv_names (.inl rfl) _).1).mono ?_
          rintro e w11 ⟨a2, cap2, rfl, hb⟩
          have H11 := Lib.hid (HQ.out.below hb)
          clear hb HQ
          go_wp2_with fail
          refine (names_len H11.out.tre 3 (mv_names (.inl rfl) _).2).mono ?_
          rintro e w12 ⟨a3, cap3, rfl, hb⟩
          have H12 := Lib.hid (H11.out.below hb)
          clear hb H11
          go_wp2_with fail
          refine (data_any H12.out.tre 4).mono ?_
          rintro e wd ⟨he, rfl⟩
          replace he : e = .returned (.string ⟨#[98, 121, 116, 101, 115]⟩) := he.trans (congrArg _ (by rfl))
          subst he
          go_wp2
          go_roundw
          case rel => exact ⟨k + 1, 2, s, by go_num, by omega, rfl, rfl, .inl rfl, HOK2.out, _, H12.out⟩
          case measure => simp [intOf]; omega
        · have HQ := Lib.hid hq
          have HOK2 := Lib.hid hok2
          have HD2 : Hid (di.toNat = 2 ∨ di.toNat = 3) := Lib.hid (by have := HDI.out; omega)
          have hs2 : w10.cell? ⟨ba, oa + k, none⟩ = some (.string s) := by rw [HQ.out.own.below.cell (p := ⟨ba, oa + k, none⟩) (by have := HB1.out.size; simp; omega), HB1.out.cell (p := ⟨ba, oa + k, none⟩) hba]; exact HSC.out
          have HN2 := Lib.hid (mv_names HD2.out (bs nm))
          clear hst hr hq hs' hx' HO
          go_wp2_with fail
          refine (rname_ok _ _).mono ?_
          rintro e wn ⟨rfl, rfl⟩
          go_wp2_with fail
          refine (look_any HQ.out.tre di _).mono ?_
          rintro e wl ⟨he, rfl⟩
          replace he : e = .returned (.tuple #[.int .i64 4, .bool true]) := he.trans (by rw [mv_look HD2.out HOK.out]; rfl)
          subst he
          rcases (show di.toNat = 2 ∨ di.toNat = 3 from HD2.out) with hd2 | hd2
          · have HN3 : Hid ((namesT (IT.movesT byt di.toNat (bs nm)) 2).length = 1 ∧ (namesT (IT.movesT byt di.toNat (bs nm)) 3).length = 0) := Lib.hid (by have := HN2.out; rw [hd2] at this ⊢; exact this)
            clear hd2
            go_wp2_with fail
            refine (names_len HQ.out.tre 2 HN3.out.1).mono ?_
            rintro e w11 ⟨a2, cap2, rfl, hb⟩
            have H11 := Lib.hid (HQ.out.below hb)
            clear hb HQ
            go_wp2_with fail
            refine (names_len H11.out.tre 3 HN3.out.2).mono ?_
            rintro e w12 ⟨a3, cap3, rfl, hb⟩
            have H12 := Lib.hid (H11.out.below hb)
            clear hb H11
            go_wp2_with fail
            refine (data_any H12.out.tre 4).mono ?_
            rintro e wd ⟨he, rfl⟩
            replace he : e = .returned (.string ⟨#[98, 121, 116, 101, 115]⟩) := he.trans (congrArg _ (by rcases HD2.out with e | e <;> (rw [e]; rfl)))
            subst he
            go_wp2
            go_roundw
            case rel => exact ⟨k + 1, di, nm, by go_num, by omega, rfl, rfl, HDI.out, HOK.out, _, H12.out⟩
            case measure => simp [intOf]; omega
          · have HN3 : Hid ((namesT (IT.movesT byt di.toNat (bs nm)) 2).length = 0 ∧ (namesT (IT.movesT byt di.toNat (bs nm)) 3).length = 1) := Lib.hid (by have := HN2.out; rw [hd2] at this ⊢; exact this)
            clear hd2
            go_wp2_with fail
            refine (names_len HQ.out.tre 2 HN3.out.1).mono ?_
            rintro e w11 ⟨a2, cap2, rfl, hb⟩
            have H11 := Lib.hid (HQ.out.below hb)
            clear hb HQ
            go_wp2_with fail
            refine (names_len H11.out.tre 3 HN3.out.2).mono ?_
            rintro e w12 ⟨a3, cap3, rfl, hb⟩
            have H12 := Lib.hid (H11.out.below hb)
            clear hb H11
            go_wp2_with fail
            refine (data_any H12.out.tre 4).mono ?_
            rintro e wd ⟨he, rfl⟩
            replace he : e = .returned (.string ⟨#[98, 121, 116, 101, 115]⟩) := he.trans (congrArg _ (by rcases HD2.out with e | e <;> (rw [e]; rfl)))
            subst he
            go_wp2
            go_roundw
            case rel => exact ⟨k + 1, di, nm, by go_num, by omega, rfl, rfl, HDI.out, HOK.out, _, H12.out⟩
            case measure => simp [intOf]; omega
      | true =>
        go_wp2_with fail
        refine (move_any HO.out.tre di 3 _ _).mono ?_
        rintro e w10 ⟨r, rfl, hst⟩
        obtain ⟨S', T', hq, hr, _⟩ := HO.out.stp hst fun T' h => h.sound HO.out.snd
        rcases IT.moves_step (by have := HDI.out; omega) (.inr rfl) hr with ⟨hok2, rfl, rfl⟩ | ⟨hok2, rfl, rfl⟩
        · have HQ := Lib.hid hq
          have HOK2 := Lib.hid hok2
          have HD2 : Hid ((3 : Int).toNat = 2 ∨ (3 : Int).toNat = 3) := Lib.hid (.inr rfl)
          have hs2 : w10.cell? ⟨ba, oa + k, none⟩ = some (.string s) := by rw [HQ.out.own.below.cell (p := ⟨ba, oa + k, none⟩) (by have := HB1.out.size; simp; omega), HB1.out.cell (p := ⟨ba, oa + k, none⟩) hba]; exact HSC.out
          clear hst hr hq hs' hx' HO
          go_wp2_with fail
          refine (rname_ok _ _).mono ?_
          rintro e wn ⟨rfl, rfl⟩
          go_wp2_with fail
          refine (look_any HQ.out.tre 3 _).mono ?_
          rintro e wl ⟨he, rfl⟩
          replace he : e = .returned (.tuple #[.int .i64 4, .bool true]) := he.trans (congrArg (fun o => Ending.returned (lookV o)) (mv_look (.inr rfl) HOK2.out))
          subst he
          go_wp2_with fail
          refine (names_len HQ.out.tre 2 (mv_names (.inr rfl) _).1).mono ?_
          rintro e w11 ⟨a2, cap2, rfl, hb⟩
          have H11 := Lib.hid (HQ.out.below hb)
          clear hb HQ
          go_wp2_with fail
          refine (names_len H11.out.tre 3 (mv_names (.inr rfl) _).2).mono ?_
          rintro e w12 ⟨a3, cap3, rfl, hb⟩
          have H12 := Lib.hid (H11.out.below hb)
          clear hb H11
          go_wp2_with fail
          refine (data_any H12.out.tre 4).mono ?_
          rintro e wd ⟨he, rfl⟩
          replace he : e = .returned (.string ⟨#[98, 121, 116, 101, 115]⟩) := he.trans (congrArg _ (by rfl))
          subst he
          go_wp2
          go_roundw
          case rel => exact ⟨k + 1, 3, s, by go_num, by omega, rfl, rfl, .inr rfl, HOK2.out, _, H12.out⟩
          case measure => simp [intOf]; omega
        · have HQ := Lib.hid hq
          have HOK2 := Lib.hid hok2
          have HD2 : Hid (di.toNat = 2 ∨ di.toNat = 3) := Lib.hid (by have := HDI.out; omega)
          have hs2 : w10.cell? ⟨ba, oa + k, none⟩ = some (.string s) := by rw [HQ.out.own.below.cell (p := ⟨ba, oa + k, none⟩) (by have := HB1.out.size; simp; omega), HB1.out.cell (p := ⟨ba, oa + k, none⟩) hba]; exact HSC.out
          have HN2 := Lib.hid (mv_names HD2.out (bs nm))
          clear hst hr hq hs' hx' HO
          go_wp2_with fail
          refine (rname_ok _ _).mono ?_
          rintro e wn ⟨rfl, rfl⟩
          go_wp2_with fail
          refine (look_any HQ.out.tre di _).mono ?_
          rintro e wl ⟨he, rfl⟩
          replace he : e = .returned (.tuple #[.int .i64 4, .bool true]) := he.trans (by rw [mv_look HD2.out HOK.out]; rfl)
          subst he
          rcases (show di.toNat = 2 ∨ di.toNat = 3 from HD2.out) with hd2 | hd2
          · have HN3 : Hid ((namesT (IT.movesT byt di.toNat (bs nm)) 2).length = 1 ∧ (namesT (IT.movesT byt di.toNat (bs nm)) 3).length = 0) := Lib.hid (by have := HN2.out; rw [hd2] at this ⊢; exact this)
            clear hd2
            go_wp2_with fail
            refine (names_len HQ.out.tre 2 HN3.out.1).mono ?_
            rintro e w11 ⟨a2, cap2, rfl, hb⟩
            have H11 := Lib.hid (HQ.out.below hb)
            clear hb HQ
            go_wp2_with fail
            refine (names_len H11.out.tre 3 HN3.out.2).mono ?_
            rintro e w12 ⟨a3, cap3, rfl, hb⟩
            have H12 := Lib.hid (H11.out.below hb)
            clear hb H11
            go_wp2_with fail
            refine (data_any H12.out.tre 4).mono ?_
            rintro e wd ⟨he, rfl⟩
            replace he : e = .returned (.string ⟨#[98, 121, 116, 101, 115]⟩) := he.trans (congrArg _ (by rcases HD2.out with e | e <;> (rw [e]; rfl)))
            subst he
            go_wp2
            go_roundw
            case rel => exact ⟨k + 1, di, nm, by go_num, by omega, rfl, rfl, HDI.out, HOK.out, _, H12.out⟩
            case measure => simp [intOf]; omega
          · have HN3 : Hid ((namesT (IT.movesT byt di.toNat (bs nm)) 2).length = 0 ∧ (namesT (IT.movesT byt di.toNat (bs nm)) 3).length = 1) := Lib.hid (by have := HN2.out; rw [hd2] at this ⊢; exact this)
            clear hd2
            go_wp2_with fail
            refine (names_len HQ.out.tre 2 HN3.out.1).mono ?_
            rintro e w11 ⟨a2, cap2, rfl, hb⟩
            have H11 := Lib.hid (HQ.out.below hb)
            clear hb HQ
            go_wp2_with fail
            refine (names_len H11.out.tre 3 HN3.out.2).mono ?_
            rintro e w12 ⟨a3, cap3, rfl, hb⟩
            have H12 := Lib.hid (H11.out.below hb)
            clear hb H11
            go_wp2_with fail
            refine (data_any H12.out.tre 4).mono ?_
            rintro e wd ⟨he, rfl⟩
            replace he : e = .returned (.string ⟨#[98, 121, 116, 101, 115]⟩) := he.trans (congrArg _ (by rcases HD2.out with e | e <;> (rw [e]; rfl)))
            subst he
            go_wp2
            go_roundw
            case rel => exact ⟨k + 1, di, nm, by go_num, by omega, rfl, rfl, HDI.out, HOK.out, _, H12.out⟩
            case measure => simp [intOf]; omega
    · obtain ⟨hdi, hok, S, ho⟩ := HI.out
      have HO := Lib.hid ho
      have HDI : Hid (di.toNat = 2 ∨ di.toNat = 3) := Lib.hid (by omega)
      clear ho hdi hok
      have hcc : (len0 : Int) ≤ k ∨ ((k : Int) < len0 ∧ (len1 : Int) ≤ k) ∨ ((k : Int) < len0 ∧ (k : Int) < len1 ∧ (50 : Int) ≤ k) := by omega
      clear hc
      rcases hcc with hc | ⟨hc0, hc⟩ | ⟨hc0, hc1, hc⟩
      all_goals
        go_wp2_with fail
        refine (stat_any HO.out.tre 4).mono ?_
        rintro e wl ⟨he, hb⟩
        replace he : e = .returned (.tuple #[.agg #[.int .i64 4, .int .i64 0, .int .i64 420, .int .i64 0, .int .i64 0, .int .i64 1, .int .i64 5, .int .i64 0], .bool true]) := he.trans (congrArg (fun v => Ending.returned (.tuple #[v, .bool true])) (mv_stat HDI.out (bs nm)))
        subst he
        have HO2 := Lib.hid (HO.out.below hb)
        clear hb HO
        by_cases hx : bs nm = [120]
        · have hx1 : nm.toList = [120] := by rw [ByteArray.toList_eq]; exact hx
          have HNE : Hid (([122] : List UInt8) ≠ bs nm) := Lib.hid (by rw [hx]; decide)
          clear hx
          go_wp2_with fail
          refine (move_any (HO2.out.alloc _).tre 1 2 _ _).mono ?_
          rintro e w10 ⟨r, rfl, hst⟩
          obtain ⟨S', T', hq, hr, _⟩ := (HO2.out.alloc _).stp hst fun T' h => h.sound HO2.out.snd
          obtain ⟨rfl, rfl⟩ := IT.moves_end1 ok_z hr
          have HQ := Lib.hid hq
          clear hst hr hq HO2
          go_wp2_with fail
          refine (move_any HQ.out.tre 1 3 _ _).mono ?_
          rintro e w11 ⟨r, rfl, hst⟩
          obtain ⟨S2, T2, hq, hr, _⟩ := HQ.out.stp hst fun T' h => h.sound HQ.out.snd
          obtain ⟨rfl, e1, e2, e3⟩ := IT.moves_end2 ok_z HNE.out hr
          have HQ2 := Lib.hid hq
          have HE := Lib.hid (And.intro e1 (And.intro e2 e3))
          clear hst hr hq e1 e2 e3
          go_wp2_with fail
          refine (move_any HQ2.out.tre 1 2 _ _).mono ?_
          rintro e w12 ⟨r, rfl, hst⟩
          obtain ⟨S3, T3, hq, hr, _⟩ := HQ2.out.stp hst fun T' h => h.sound HQ2.out.snd
          obtain rfl := IT.moves_end3 ok_y HE.out.1 HE.out.2.1 HE.out.2.2 hr
          have HQ3 := Lib.hid hq
          clear hst hr hq
          go_wp2
          go_ret
          exact ⟨rfl, HB1.out.trans (HQ3.out.own.below.mono HB1.out.size)⟩
        · have hx1 := nm_x nm _ hx
          have HNE : Hid (([120] : List UInt8) ≠ bs nm) := Lib.hid (fun e => hx e.symm)
          clear hx
          go_wp2_with fail
          refine (move_any (HO2.out.alloc _).tre 1 2 _ _).mono ?_
          rintro e w10 ⟨r, rfl, hst⟩
          obtain ⟨S', T', hq, hr, _⟩ := (HO2.out.alloc _).stp hst fun T' h => h.sound HO2.out.snd
          obtain ⟨rfl, rfl⟩ := IT.moves_end1 ok_x hr
          have HQ := Lib.hid hq
          clear hst hr hq HO2
          go_wp2_with fail
          refine (move_any HQ.out.tre 1 3 _ _).mono ?_
          rintro e w11 ⟨r, rfl, hst⟩
          obtain ⟨S2, T2, hq, hr, _⟩ := HQ.out.stp hst fun T' h => h.sound HQ.out.snd
          obtain ⟨rfl, e1, e2, e3⟩ := IT.moves_end2 ok_x HNE.out hr
          have HQ2 := Lib.hid hq
          have HE := Lib.hid (And.intro e1 (And.intro e2 e3))
          clear hst hr hq e1 e2 e3
          go_wp2_with fail
          refine (move_any HQ2.out.tre 1 2 _ _).mono ?_
          rintro e w12 ⟨r, rfl, hst⟩
          obtain ⟨S3, T3, hq, hr, _⟩ := HQ2.out.stp hst fun T' h => h.sound HQ2.out.snd
          obtain rfl := IT.moves_end3 ok_y HE.out.1 HE.out.2.1 HE.out.2.2 hr
          have HQ3 := Lib.hid hq
          clear hst hr hq
          go_wp2
          go_ret
          exact ⟨rfl, HB1.out.trans (HQ3.out.own.below.mono HB1.out.size)⟩
end Go.Proofs.Ytafonmnfeibaiaa
namespace Go.Proofs.Ytafonmnfeibaiaa
open Go.RowKit

/-! ### WalkMakes, walked -/
theorem bs_app (a b : ByteArray) : bs (a ++ b) = bs a ++ bs b := by unfold bs; rw [ByteArray.data_append, Array.toList_append]
structure MkI (B : Nat) (w1 wr : World) (t R : Nat) (l : List IT.Bytes) (u : Int) (j : Nat) : Prop where
  ok : ∀ q ∈ l, okN q = true
  tro : ∃ S, Tro B w1 wr t S (chT l u j) ∧ Fr wr t S R
  c : wr.heap[R]? = some (.cells #[.int .i64 u, .int .i64 u, .int .i64 u, .int .i64 9, .int .i64 9] 27 (0, 0))
set_option maxRecDepth 100000 in
set_option maxHeartbeats 8000000 in
theorem makes_law (a0 : Option Addr) (len0 cap0 : Nat) (uid mo : Int) (w : World) (hl0 : len0 ≤ maxLen) (h0 : Strs w w.heap.size a0 len0) :
    Calls Try.prog 3 #[.slice a0 len0 cap0, .int .i64 uid, .int .i64 mo] w fun e w' => e = .returned (.bool true) ∧ Below w.heap.size w w' := by
  unfold maxLen at hl0
  obtain ⟨j1, hj1, hb1⟩ := and_small uid 255 (by decide)
  obtain ⟨j, hj, hb2⟩ := and_small mo 63 (by decide)
  rw [show ((255 : Nat) : Int) = 255 from rfl] at hb1
  rw [show ((63 : Nat) : Int) = 63 from rfl] at hb2
  obtain ⟨M, hM⟩ : ∃ M, M = chM j := ⟨_, rfl⟩
  have hb3 : bits .or .i64 448 (j : Int) = M := by
    rw [hM, show (448 : Int) = ((448 : Nat) : Int) from rfl, Md.or_nat (by decide) (by unfold Md.big; omega), or_448 j hj]; rfl
  have HS := Lib.hid h0
  have HM := Lib.hid hM
  have HJ := Lib.hid hj
  have hj1' : (j1 : Int) ≤ 255 := by omega
  clear h0 hM hj hj1
  go_enter Try.func3, Try.ntmps3
  go_wp2_with fail
  refine (shown7_any w).mono ?_
  rintro e w1 ⟨rfl, hb⟩
  have HB1 := Lib.hid hb
  clear hb
  go_wp2_with fail
  refine (new_ok _ _ _ _ (by decide +kernel)).mono ?_
  rintro e w2 ⟨t, S0, rfl, ho⟩
  have H0 := Lib.hid ho
  clear ho
  go_upto_region 7 with fail
  have hu1 : (1 : Int) ≤ 1 + (j1 : Int) := by omega
  have hu2 : 1 + (j1 : Int) ≤ 256 := by omega
  clear hb1 hb2 hb3 hj1'
  generalize 1 + (j1 : Int) = u at *
  go_wp2_with fail
  refine (who_any _ _ _).mono ?_
  rintro e w3 ⟨rfl, hb⟩
  have q0 := alloc_heap w3 (.cells #[.int .i64 u, .int .i64 u, .int .i64 u, .int .i64 9, .int .i64 9] 27)
  have H1 : Hid (MkI w1.heap.size w1 (w3.alloc (.cells #[.int .i64 u, .int .i64 u, .int .i64 u, .int .i64 9, .int .i64 9] 27)) t w3.heap.size [] u j) := Lib.hid ⟨fun q hq => by (cases hq), ⟨S0, by rw [chT_nil]; exact (H0.out.below hb).alloc _, ⟨lt_of_heap q0, fun hf => by have := H0.out.tre.rep.foot_lt hf; have := hb.size; omega⟩⟩, q0⟩
  clear hb q0
  unfold cred whoC
  dsimp only
  go_wp2_with fail
  go_loopg [10, 11] 4 (fun g sv iv wr => ∃ (l : List IT.Bytes) (s : ByteArray), l.length + g = 4 ∧ sv = .string s ∧ iv = .int .i64 (l.length : Int) ∧ l.length ≤ len0 ∧ Hid (bs s = pathB l) ∧ Hid (MkI w1.heap.size w1 wr t w3.heap.size l u j))
  case atStart => exact ⟨[], ⟨#[]⟩, rfl, rfl, rfl, Nat.zero_le _, Lib.hid rfl, H1⟩
  case round =>
    obtain ⟨l, s, hg, rfl, rfl, hle, HBS, HI⟩ := hrel
    obtain ⟨S, htr, hfr⟩ := HI.out.tro
    have HT := Lib.hid htr
    have HFR := Lib.hid hfr
    clear htr hfr
    obtain ⟨k, hk⟩ : ∃ k, k = l.length := ⟨_, rfl⟩
    rw [← hk] at hg hle ⊢
    have HK := Lib.hid hk
    clear hk
    by_cases hlt : k < len0 ∧ k < 4
    · obtain ⟨hlt1, hlt2⟩ := hlt
      obtain ⟨og, rfl⟩ : ∃ og, gk = og + 1 := ⟨gk - 1, by omega⟩
      obtain ⟨ba, oa, nm, rfl, hba, hs, _⟩ := HS.out k hlt1
      have hnm : wr.cell? ⟨ba, oa + k, none⟩ = some (.string nm) := by rw [HT.out.own.below.cell (p := ⟨ba, oa + k, none⟩) (by have := HB1.out.size; simp; omega), HB1.out.cell (p := ⟨ba, oa + k, none⟩) hba]; exact hs
      have hk0 : (k : Int) < len0 := by omega
      have hk4 : (k : Int) < 4 := by omega
      have HBA := Lib.hid hba
      have HSC := Lib.hid hs
      clear hs hba
      have HNM := Lib.hid (nameB_ok nm)
      cases hok : nameB nm with
      | false =>
        have HNA : Hid (∀ W', Calls Try.prog 11 #[.string nm] W' fun e w' => e = .returned (.bool false) ∧ W' = w') := Lib.hid (fun W' => by have := name_any nm W'; rw [hok] at this; exact this)
        clear hok
        go_wp2_with fail
        refine (HNA.out _).mono ?_
        rintro e w5 ⟨rfl, rfl⟩
        go_wp2
        go_ret
        exact ⟨rfl, HB1.out.trans (HT.out.own.below.mono HB1.out.size)⟩
      | true =>
        have HNA : Hid (∀ W', Calls Try.prog 11 #[.string nm] W' fun e w' => e = .returned (.bool true) ∧ W' = w') := Lib.hid (fun W' => by have := name_any nm W'; rw [hok] at this; exact this)
        have HOK : Hid (∀ q ∈ l ++ [bs nm], okN q = true) := Lib.hid (fun q hq => by
          rcases List.mem_append.1 hq with h | h
          · exact HI.out.ok q h
          · rw [List.mem_singleton.1 h, ← HNM.out]; exact hok)
        have hn1 : nm.size ≤ 14 := by have := (okN_parts (HOK.out (bs nm) (by simp))).2.1; rw [bs_len] at this; exact this
        have hs1 : s.size ≤ 60 := by
          have h1 := pathB_len l (fun q hq => (okN_parts (HI.out.ok q hq)).2.1)
          rw [← HBS.out, bs_len, ← HK.out] at h1
          omega
        clear hok
        go_wp2_with fail
        refine (HNA.out _).mono ?_
        rintro e w5 ⟨rfl, rfl⟩
        have c0 := cell_of HI.out.c 0
        have c1 := cell_of HI.out.c 1
        have c2 := cell_of HI.out.c 2
        have c3 := cell_of HI.out.c 3
        have c4 := cell_of HI.out.c 4
        go_upto_region 15 with fail
        have HB2 : Hid (bs (s ++ ⟨#[47]⟩ ++ nm) = pathB (l ++ [bs nm])) := Lib.hid (by rw [bs_app, bs_app, HBS.out, pathB_snoc, List.append_assoc]; rfl)
        have hs2 : (s ++ (⟨#[47]⟩ : ByteArray) ++ nm).size ≤ 80 := by
          rw [ByteArray.size_append, ByteArray.size_append]
          have : (⟨#[47]⟩ : ByteArray).size = 1 := rfl
          omega
        generalize s ++ (⟨#[47]⟩ : ByteArray) ++ nm = s2 at *
        have hl4 : l.length ≤ 4 := by have := HK.out; omega
        have HL4 := Lib.hid hl4
        clear hl4 hnm hn1 hs1
        go_wp2_with fail
        refine (walkMkdir_any HT.out.tre ((ch_hb l u j).mono (by decide)) 1 (whoC u 9) s2 M).mono ?_
        rintro e w6 ⟨r, rfl, hst⟩
        obtain ⟨S1, T1, h1, hr, g⟩ := HT.out.stp hst fun T' h => h.sound HT.out.snd
        rw [HB2.out, HM.out] at hr
        obtain ⟨rfl, rfl⟩ := ch_mkdir hu1 HJ.out HL4.out HOK.out HT.out.snd (by omega) hr
        have HT1 := Lib.hid h1
        have q := (HFR.out.heap g).trans HI.out.c
        have HF1 := Lib.hid (HFR.out.mv g)
        have HQ1 := Lib.hid q
        clear hst hr h1 g c0 c1 c2 c3 c4
        have c0 := cell_of q 0
        have c1 := cell_of q 1
        have c2 := cell_of q 2
        have c3 := cell_of q 3
        have c4 := cell_of q 4
        clear q
        obtain ⟨K, hK⟩ : ∃ K, K = l.length + 2 := ⟨_, rfl⟩
        have HF : Hid (findT (chT (l ++ [bs nm]) u j) (whoC u 9) 1 (bs (s2 ++ (⟨#[47]⟩ : ByteArray))) = (K, 0)) := Lib.hid (by rw [bs_app, HB2.out, hK]; exact ch_find hu1 HJ.out HL4.out HOK.out)
        have HSV := Lib.hid (ch_stat hu1 HJ.out HL4.out HOK.out)
        rw [← hK] at HSV
        have HKK := Lib.hid hK
        clear hK
        go_wp2_with fail
        refine (walkFind_any HT1.out.tre 1 (whoC u 9) (s2 ++ (⟨#[47]⟩ : ByteArray)) HF.out).mono ?_
        rintro e w7 ⟨he, hb⟩
        replace he : e = .returned (.tuple #[.int .i64 K, .int .i64 0]) := he
        subst he
        have HT2 := Lib.hid (HT1.out.below hb)
        have q := (hb.block _ HF1.out.1).trans HQ1.out
        have HF2 := Lib.hid (HF1.out.below hb)
        have HQ2 := Lib.hid q
        clear hb c0 c1 c2 c3 c4 q
        obtain ⟨xa, hxa⟩ : ∃ xa : Int, statV (chT (l ++ [bs nm]) u j) K = infoV K 1 M u 9 xa 0 0 := by
          obtain ⟨a, ha, _⟩ := HSV.out
          exact ⟨a, by rw [HM.out]; exact ha⟩
        have HXA := Lib.hid hxa
        clear hxa
        go_wp2_with fail
        refine (stat_any HT2.out.tre (K : Int)).mono ?_
        rintro e w8 ⟨he, hb⟩
        replace he : e = .returned (.tuple #[.agg #[.int .i64 K, .int .i64 1, .int .i64 M, .int .i64 u, .int .i64 9, .int .i64 xa, .int .i64 0, .int .i64 0], .bool true]) := he.trans (by
          rw [show ((K : Int)).toNat = K from rfl, HXA.out]
          obtain ⟨_, _, hz⟩ := HSV.out
          rw [hz]; rfl)
        subst he
        have q := (hb.block _ HF2.out.1).trans HQ2.out
        have HT3 := Lib.hid ((HT2.out.below hb).alloc (.cells #[.int .i64 K, .int .i64 1, .int .i64 M, .int .i64 u, .int .i64 9, .int .i64 xa, .int .i64 0, .int .i64 0] 35))
        have HF3 := Lib.hid (((HF2.out.below hb)).below ((Below.refl _ _).alloc (Nat.le_refl _) (.cells #[.int .i64 K, .int .i64 1, .int .i64 M, .int .i64 u, .int .i64 9, .int .i64 xa, .int .i64 0, .int .i64 0] 35)))
        have HQ3 := Lib.hid ((alloc_heap_old w8 (.cells #[.int .i64 K, .int .i64 1, .int .i64 M, .int .i64 u, .int .i64 9, .int .i64 xa, .int .i64 0, .int .i64 0] 35) (lt_of_heap q)).trans q)
        clear hb q
        go_wp2_with fail
        refine (who_any _ _ _).mono ?_
        rintro e w9 ⟨rfl, hb⟩
        have q := (hb.block _ HF3.out.1).trans HQ3.out
        have HT4 := Lib.hid (HT3.out.below hb)
        have HF4 := Lib.hid (HF3.out.below hb)
        have HQ4 := Lib.hid q
        clear hb q
        unfold cred whoC
        dsimp only
        have HTST : Hid (∃ k2 r2, findT (chT (l ++ [bs nm]) u j) (whoC (u + 1) 8) 1 (bs (s2 ++ (⟨#[47, 46]⟩ : ByteArray))) = (k2, r2) ∧ (k = 0 ∨ (0 < k ∧ ((r2 = 0 ∧ bits .and .i64 M 1 = 1) ∨ (r2 = 4 ∧ bits .and .i64 M 1 = 0))))) := Lib.hid (by
          have hmb : bits .and .i64 M 1 = (((448 + j) &&& 1 : Nat) : Int) := by
            rw [HM.out, show (1 : Int) = ((1 : Nat) : Int) from rfl]
            have := HJ.out
            exact Md.and_nat (by unfold Md.big; omega) (by decide)
          rw [bs_app, HB2.out, hmb]
          by_cases hl0 : l = []
          · exact ⟨_, _, ch_find2 hu1 HJ.out HL4.out HOK.out (.inl hl0), .inl (by rw [HK.out, hl0]; rfl)⟩
          · have hkp : 0 < k := by rw [HK.out]; exact List.length_pos_iff.2 hl0
            by_cases hz : (448 + j) &&& 1 = 1
            · exact ⟨_, _, ch_find2 hu1 HJ.out HL4.out HOK.out (.inr hz), .inr ⟨hkp, .inl ⟨rfl, by rw [hz]; rfl⟩⟩⟩
            · refine ⟨_, _, ch_find3 hu1 HJ.out HL4.out HOK.out hl0 hz, .inr ⟨hkp, .inr ⟨rfl, ?_⟩⟩⟩
              have : (448 + j) &&& 1 = 0 := by
                have := Nat.and_one_is_mod (448 + j)
                omega
              rw [this]; rfl)
        obtain ⟨k2, r2, hf2, hcase⟩ := HTST.out
        have HF2F := Lib.hid hf2
        clear hf2 HTST
        have c0 := cell_of HQ4.out 0
        clear c0
        go_wp2_with fail
        refine (walkFind_any HT4.out.tre 1 (whoC (u + 1) 8) (s2 ++ (⟨#[47, 46]⟩ : ByteArray)) HF2F.out).mono ?_
        rintro e w10 ⟨he, hb⟩
        obtain ⟨k3, hk3⟩ : ∃ k3 : Nat, k3 = (if r2 = 0 then k2 else 0) := ⟨_, rfl⟩
        rw [← hk3] at he
        clear hk3
        subst he
        have q := (hb.block _ HF4.out.1).trans HQ4.out
        have HT5 := Lib.hid (HT4.out.below hb)
        have HF5 := Lib.hid (HF4.out.below hb)
        have HQ5 := Lib.hid q
        clear hb
        have c0 := cell_of q 0
        have c1 := cell_of q 1
        have c2 := cell_of q 2
        have c3 := cell_of q 3
        have c4 := cell_of q 4
        clear q
        have HEND : Hid (∀ W', Below w10.heap.size w10 W' → Calls Try.prog 12 #[.pointer (some ⟨t, 0, none⟩), .int .i64 1, .agg #[.int .i64 u, .int .i64 u, .int .i64 u, .int .i64 9, .int .i64 9], .string s2, .int .i64 M] W' fun e w' => e = .returned (.int .i64 5) ∧ Hid (MkI w1.heap.size w1 w' t w3.heap.size (l ++ [bs nm]) u j)) := Lib.hid (fun W' hb => (walkMkdir_any (HT5.out.below hb).tre ((ch_hb (l ++ [bs nm]) u j).mono (by decide)) 1 (whoC u 9) s2 M).mono (by
          rintro e w' ⟨r, rfl, hst⟩
          obtain ⟨S9, T9, h9, hr, g⟩ := (HT5.out.below hb).stp hst fun T' h => h.sound HT5.out.snd
          rw [HB2.out, HM.out] at hr
          obtain ⟨rfl, rfl⟩ := ch_mkdir2 hu1 HJ.out HL4.out HOK.out hr
          refine ⟨rfl, Lib.hid ⟨HOK.out, ⟨S9, h9, (HF5.out.below hb).mv g⟩, ?_⟩⟩
          exact ((HF5.out.below hb).heap g).trans ((hb.block _ HF5.out.1).trans HQ5.out)))
        have HLN : Hid (k + 1 = (l ++ [bs nm]).length) := Lib.hid (by rw [List.length_append, ← HK.out]; rfl)
        rcases hcase with rfl | ⟨hkp, ⟨rfl, hmb⟩ | ⟨rfl, hmb⟩⟩
        all_goals
          go_wp2_with fail
          refine (HEND.out _ (Below.refl _ _)).mono ?_
          rintro e w11 ⟨rfl, HI2⟩
          go_wp2
          go_roundg og
          case measure => omega
          case rel => exact ⟨l ++ [bs nm], s2, by rw [← HLN.out]; omega, rfl, by rw [← HLN.out]; go_num, by rw [← HLN.out]; omega, HB2, HI2⟩
    · have hno : ¬ ((k : Int) < len0) ∨ ¬ ((k : Int) < 4) := by omega
      clear hlt
      by_cases hk4 : (k : Int) < 4
      · have hk0 : (len0 : Int) ≤ k := by omega
        clear hno
        go_wp2
        go_ret
        exact ⟨rfl, HB1.out.trans (HT.out.own.below.mono HB1.out.size)⟩
      · obtain rfl : k = 4 := by omega
        by_cases hk0 : len0 = 4
        · subst hk0
          clear hno hk4
          go_wp2
          go_ret
          exact ⟨rfl, HB1.out.trans (HT.out.own.below.mono HB1.out.size)⟩
        · have hk1 : (4 : Int) < len0 := by omega
          clear hno hk4 hk0
          go_wp2
          go_ret
          exact ⟨rfl, HB1.out.trans (HT.out.own.below.mono HB1.out.size)⟩
end Go.Proofs.Ytafonmnfeibaiaa
namespace Go.Proofs.Ytafonmnfeibaiaa.walkMakes
open Go.ChangeShapes Go.WideShapes Go.ChangeAt Go.RowKit
open Go.ChangeMaps (open_string shut_string)
set_option linter.unusedVariables false

theorem own : ownKnob Try.prog.godebug = none := by kernel_rfl
theorem laidOut : laidOutB Try.prog = true := by kernel_rfl
theorem add_none (b off j : Nat) : (Addr.mk b off none).add j = ⟨b, off + j, none⟩ := by
  by_cases h : j = 0
  · subst h; simp [Addr.add]
  · simp [Addr.add, h]
theorem strs_of {H : Type} {enc : TypeId × Value → H} {W : World} {a : Option Addr} {len cap : Nat} {d : DataW H} {p : List MemPlace} (h : ∃ n, DataW.trod enc Try.prog W 0 (fun _ => true) true n 22 (Value.cells (.slice a len cap)).toList = some (d, p)) :
    len ≤ maxLen ∧ Strs W W.heap.size a len := by
  obtain ⟨fuel, hf⟩ := h
  rcases open_strings Try.underlying22 Try.underlying9 (by kernel_rfl) hf with ⟨hcs, _⟩ | ⟨x, l, c, ss, hcs, _, hl, hm, hz, _, hcell, hws⟩
  · simp [Value.cells] at hcs
    obtain ⟨rfl, rfl, rfl⟩ := hcs
    exact ⟨Nat.zero_le _, fun j hj => by omega⟩
  · simp [Value.cells] at hcs
    obtain ⟨rfl, rfl, rfl⟩ := hcs
    refine ⟨by omega, fun j hj => ?_⟩
    have hc0 := hcell 0 (by simp at hz; omega)
    have hc := hcell j (by simp at hz; omega)
    obtain ⟨b, off, spot⟩ := x
    have hspot : spot = none := by simpa [Addr.add] using World.cell?_spot hc0
    subst hspot
    rw [add_none] at hc
    refine ⟨b, off, _, rfl, World.block_lt_of_cell? W ⟨b, off + j, none⟩ hc, hc, hws _ ?_⟩
    rw [List.getD_eq_getElem?_getD, List.getElem?_eq_getElem (by simp at hz; omega)]
    exact List.getElem_mem _

set_option maxRecDepth 100000 in
theorem lifted (os : Os) (started : os.Started) (H : Type) (enc : TypeId × Value → H) :
    ReturnsInHanded {} Try.checked os 3 .any (Rows.walkMakesSpec.pre6 enc Try.prog Try.f3 Rows.walkMakesRow.domain false) (Rows.walkMakesSpec.post enc Try.prog Try.f3 false true false false) := by
  refine returnsInHanded_of_change (C := Try.checked) own started (by kernel_rfl) Try.func3
    (ChangeSpec.witness6 (enc := enc) (C := Try.checked) false ⟨#[], #[.slice none 0 0, .int .i64 0, .int .i64 0], []⟩ 8 (by kernel_rfl) (by kernel_rfl) (by kernel_rfl) (by kernel_rfl)) ?_
  intro W base args ds gs before hval0 hW hcnd _
  have hval : ∀ (j : Nat) t v, Try.f3.params[j]? = some t → args[j]? = some v → Value.okWide Try.prog W .any base t v := hval0
  have hW' := hW
  obtain ⟨p, q, hA0, hV, rfl, hfz, hnd⟩ := hW
  have hA : DataW.TrodAll enc Try.prog W 0 (fun _ => true) true Try.f3.params.toList args.toList ds p := hA0
  rw [Try.params3] at hA hval
  obtain ⟨v0, vs0, d0, ds0, p0, q0, hargs, rfl, rfl, h0, r0⟩ := trodAll_cons hA
  obtain ⟨v1, vs1, d1, ds1, p1, q1, rfl, rfl, rfl, h1, r1⟩ := trodAll_cons r0
  obtain ⟨v2, vs2, d2, ds2, p2, q2, rfl, rfl, rfl, h2, r2⟩ := trodAll_cons r1
  obtain ⟨rfl, rfl, rfl⟩ := trodAll_nil r2
  obtain rfl : args = #[v0, v1, v2] := by cases args; simp_all
  obtain ⟨rfl, rfl⟩ := trodVars_none hV
  obtain ⟨a0, len0, cap0, rfl⟩ := okWide_slice Try.underlying22 (hval 0 22 v0 rfl rfl)
  have lt0 : ∀ x ∈ p0, x.block < W.heap.size := by obtain ⟨m, hm⟩ := h0; exact DataW.trod_lt m _ _ _ hm
  obtain ⟨m0, w0⟩ := strs_of h0
  obtain ⟨a1, rfl, rfl, rfl, w1⟩ := open_int Try.underlying3 (hval 1 3 v1 rfl rfl) h1
  obtain ⟨a2, rfl, rfl, rfl, w2⟩ := open_int Try.underlying3 (hval 2 3 v2 rfl rfl) h2
  clear hA0 hval0
  refine (makes_law a0 len0 cap0 a1 a2 W m0 w0).mono fun e W' ⟨he, bel⟩ => ?_
  subst he
  exact ⟨_, rfl, _, _, _, [], _, [], hW', trodAll_mk1 (shut_bool Try.underlying4 _), (trodAll_cons_mk (Below.trod laidOut (by kernel_rfl) (of_decide_eq_true (by kernel_rfl)) h0 bel lt0) (trodAll_cons_mk (shut_int Try.underlying3 w1) (trodAll_cons_mk (shut_int Try.underlying3 w2) trodAll_mk0))), rfl, bel.frame _, fun h => by cases h⟩

theorem over : Rows.walkMakesRow.holds Try.pinned (OpenSpec.ofChange Rows.walkMakesSpec) :=
  OpenClaim.holds_of_wide 3 Try.f3 rfl rfl rfl rfl rfl rfl rfl ⟨rfl, rfl, rfl, rfl, rfl⟩ rfl rfl rfl rfl rfl (by kernel_rfl) Try.func3 (by kernel_rfl)
    (of_decide_eq_true (by kernel_rfl)) (by unfold Func.isWrapper; first | (rw [if_pos (by decide +kernel)]; kernel_rfl) | (rw [if_neg (by decide +kernel)]; exact ⟨rfl, rfl⟩))
    (fun os started H enc _ => lifted os started H enc)

/-- The statement. -/
theorem proved : Rows.WalkMakesSaid :=
  over
#print axioms proved
end Go.Proofs.Ytafonmnfeibaiaa.walkMakes
