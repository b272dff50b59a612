/- Part 1 of the proof: contracts of functions that the statement reaches, and plain lemmas. -/
import Derived.Test.YtlhlehdajkoogaaGreatDoorProg
import Derived.WalkKit
import Derived.ProofKit
import Derived.Carry
import Derived.Deep.CutRange
import Derived.Below
import Derived.Lib.Hide
import Derived.WalkLawsBesides
import Derived.WalkSpells
import Derived.Outline
import Derived.BigQuiet
import Derived.Deep.QuietTactic
import Derived.Deep.MidRow
import Derived.Laws.OwnMore
import Derived.Test.YtlhlehdajkoogaaGreatDoorRows
import Derived.Lay
import Derived.LaidLaws
import Derived.MakeChecks
import Derived.Lib.LaidTab
import Derived.Deep.DeepHandedRow
import Derived.Laws.Rows
import Derived.LoopN
import Derived.StillTailTactics
import Derived.RegionTactic
import Derived.BigRegion
import Derived.Deep.RegionWith
import Derived.Test.YtlhlehdajkoogaaGreatDoorShelf
import Derived.Lib.IndexLaws
import Derived.Lib.TrimByte
import Derived.Lib.LastIndexByte
set_option linter.unusedSimpArgs false
set_option linter.unusedVariables false
/- A program's machine, as it lies; its small steps: Sys, Exit. -/
namespace Go.Proofs.YtlhlehdajkoogaaGreatDoor
open Go.RowKit

theorem cell_of {w : World} {b : Nat} {C : Array Value} {T : TypeId} {f : Nat × Nat} (h : w.heap[b]? = some (.cells C T f)) (i : Nat) : w.cell? ⟨b, i, none⟩ = C[i]? := by
  simp [World.cell?, h]
theorem frozen_of {w : World} {b : Nat} {C : Array Value} {T : TypeId} (h : w.heap[b]? = some (.cells C T (0, 0))) (i : Nat) : w.frozen? ⟨b, i, none⟩ = false := by
  simp [World.frozen?, h]
theorem lt_of_heap {w : World} {b : Nat} {o : Obj} (h : w.heap[b]? = some o) : b < w.heap.size := by
  obtain ⟨h1, _⟩ := Array.getElem?_eq_some_iff.1 h; exact h1
theorem alloc_heap (w : World) (o : Obj) : (w.alloc o).heap[w.heap.size]? = some o := by show (w.heap.push o)[w.heap.size]? = _; simp
theorem alloc_heap_old (w : World) (o : Obj) {b : Nat} (h : b < w.heap.size) : (w.alloc o).heap[b]? = w.heap[b]? := Below.heap_alloc _ _ _ h
theorem alloc_size (w : World) (o : Obj) : (w.alloc o).heap.size = w.heap.size + 1 := by show (w.heap.push o).size = _; simp
theorem heap_setCell_same {w : World} {b i : Nat} {C T f} (h : w.heap[b]? = some (.cells C T f)) (v : Value) : (w.setCell ⟨b, i, none⟩ v).heap[b]? = some (.cells (C.setIfInBounds i v) T f) := by
  simp [World.setCell, Array.getElem?_modify, h]
def putA : Array Value → Nat → List Value → Array Value
  | C, _, [] => C
  | C, o, v :: r => putA (C.setIfInBounds o v) (o + 1) r
theorem heap_setCells {R : Nat} {T : TypeId} {f : Nat × Nat} : ∀ (vs : List Value) (o : Nat) (C : Array Value) (W : World), W.heap[R]? = some (.cells C T f) → (W.setCells R o vs).heap[R]? = some (.cells (putA C o vs) T f)
  | [], _, _, _, h => h
  | v :: r, o, C, W, h => heap_setCells r (o + 1) _ _ (heap_setCell_same h v)
theorem setCells_size {R : Nat} : ∀ (vs : List Value) (o : Nat) (W : World), (W.setCells R o vs).heap.size = W.heap.size
  | [], _, _ => rfl
  | v :: r, o, W => by rw [World.setCells, setCells_size r]; simp [World.setCell]
theorem setCells_os {R : Nat} : ∀ (vs : List Value) (o : Nat) (W : World), (W.setCells R o vs).os = W.os ∧ (W.setCells R o vs).tape = W.tape ∧ (W.setCells R o vs).output = W.output
  | [], _, _ => ⟨rfl, rfl, rfl⟩
  | v :: r, o, W => by rw [World.setCells]; exact setCells_os r _ _
theorem heap_setCells_other {R b : Nat} (hb : b ≠ R) : ∀ (vs : List Value) (o : Nat) (W : World), (W.setCells R o vs).heap[b]? = W.heap[b]?
  | [], _, _ => rfl
  | v :: r, o, W => by rw [World.setCells, heap_setCells_other hb r, Below.heap_setCell _ _ _ _ hb]
theorem belowA {w W : World} (h : Below w.heap.size w W) (o : Obj) : Below w.heap.size w (W.alloc o) := h.alloc h.size o
theorem one_below {w w3 : World} {A : Array Value} {TA : TypeId} (hb : Below (w.alloc (.cells A TA)).heap.size (w.alloc (.cells A TA)) w3) : Below w.heap.size w w3 :=
  (belowA (Below.refl _ _) _).trans (hb.mono (by rw [alloc_size]; omega))
theorem belowDrewN {B : Nat} {a w : World} (h : Below B a w) (n : Nat) : Below B a (w.drewN n) := h.trans ⟨rfl, rfl, rfl, Nat.le_refl _, fun _ _ => rfl⟩
/-- New blocks, and block b alone is another one. -/
structure Mo (b : Nat) (w w' : World) : Prop where
  os : w'.os = w.os
  tape : w'.tape = w.tape
  output : w'.output = w.output
  size : w.heap.size ≤ w'.heap.size
  block : ∀ k, k < w.heap.size → k ≠ b → w'.heap[k]? = w.heap[k]?
theorem Mo.refl (b : Nat) (w : World) : Mo b w w := ⟨rfl, rfl, rfl, Nat.le_refl _, fun _ _ _ => rfl⟩
theorem Mo.trans {b : Nat} {a c d : World} (h : Mo b a c) (k : Mo b c d) : Mo b a d :=
  ⟨k.os.trans h.os, k.tape.trans h.tape, k.output.trans h.output, Nat.le_trans h.size k.size, fun i hi hb => (k.block i (Nat.lt_of_lt_of_le hi h.size) hb).trans (h.block i hi hb)⟩
theorem Mo.of {b : Nat} {w w' : World} (h : Below w.heap.size w w') : Mo b w w' := ⟨h.os, h.tape, h.output, h.size, fun k hk _ => h.block k hk⟩
theorem Mo.set {b i : Nat} {a w : World} (h : Mo b a w) (v : Value) : Mo b a (w.setCell ⟨b, i, none⟩ v) where
  os := h.os
  tape := h.tape
  output := h.output
  size := by rw [World.size_setCell]; exact h.size
  block := fun k hk hb => by rw [Below.heap_setCell _ _ _ _ hb]; exact h.block k hk hb
theorem Mo.alloc {b : Nat} {a w : World} (h : Mo b a w) (o : Obj) : Mo b a (w.alloc o) := h.trans (Mo.of ((Below.refl _ _).alloc (Nat.le_refl _) o))
theorem Mo.drew {b : Nat} {a w : World} (h : Mo b a w) : Mo b a w.drew := h.trans (Mo.of (Below.refl _ _).drew)
theorem Mo.drewN {b : Nat} {a w : World} (h : Mo b a w) (n : Nat) : Mo b a (w.drewN n) := h.trans (Mo.of (belowDrewN (Below.refl _ _) n))
theorem Mo.below {b : Nat} {a w w' : World} (h : Mo b a w) (k : Below w.heap.size w w') : Mo b a w' := h.trans (Mo.of k)
theorem Mo.setCells {b : Nat} {a w : World} (h : Mo b a w) (o : Nat) (vs : List Value) : Mo b a (w.setCells b o vs) where
  os := (setCells_os vs o w).1.trans h.os
  tape := (setCells_os vs o w).2.1.trans h.tape
  output := (setCells_os vs o w).2.2.trans h.output
  size := by rw [setCells_size]; exact h.size
  block := fun k hk hb => (heap_setCells_other hb _ _ _).trans (h.block k hk hb)

/-! ### calls, answers, the machine -/
/-- A call. -/
structure Ca where
  op : Int
  path : ByteArray := ⟨#[]⟩
  az : ByteArray := ⟨#[]⟩
  text : ByteArray := ⟨#[]⟩
  fd : Int := 0
  tz : Int := 0
  n : Int := 0
  mode : Int := 0
  owner : Int := 0
  group : Int := 0
  want : Int := 0
  make : Bool := false
  alone : Bool := false
  empty : Bool := false
  fin : Bool := false
  hmode : Int := 0
  line : Bool := false
  dir : Bool := false
  args : Value := .slice none 0 0
  env : Value := .slice none 0 0
def Ca.cells (c : Ca) : Array Value := #[.int .i64 c.op, .string c.path, .string c.az, .string c.text, .int .i64 c.fd, .int .i64 c.tz, .int .i64 c.n, .int .i64 c.mode, .int .i64 c.owner, .int .i64 c.group, .int .i64 c.want, .bool c.make, .bool c.alone, .bool c.empty, .bool c.fin, .int .i64 c.hmode, .bool c.line, .bool c.dir, c.args, c.env]
/-- An answer. -/
structure An where
  err : Int := 0
  n : Int := 0
  m : Int := 0
  text : ByteArray := ⟨#[]⟩
  names : Value := .slice none 0 0
  i0 : Int := 0
  i1 : Int := 0
  i2 : Int := 0
  i3 : Int := 0
  i4 : Int := 0
  i5 : Int := 0
  i6 : Int := 0
  i7 : Int := 0
  may : Int := 0
  real : Int := 0
  eff : Int := 0
  saved : Int := 0
  group : Int := 0
  egroup : Int := 0
def An.cells (r : An) : Array Value := #[.int .i64 r.err, .int .i64 r.n, .int .i64 r.m, .string r.text, r.names, .int .i64 r.i0, .int .i64 r.i1, .int .i64 r.i2, .int .i64 r.i3, .int .i64 r.i4, .int .i64 r.i5, .int .i64 r.i6, .int .i64 r.i7, .int .i64 r.may, .int .i64 r.real, .int .i64 r.eff, .int .i64 r.saved, .int .i64 r.group, .int .i64 r.egroup]
/-- What a machine holds. -/
structure Ma where
  prog : ByteArray
  gettys : Value := .slice none 0 0
  writes : Bool := false
  file : Int := 0
  todo : Value
  th : Value
  c : Ca
  over : Bool := false
def Ma.cells (m : Ma) : Array Value := #[.string m.prog, m.gettys, .bool m.writes, .int .i64 m.file, .int .i64 0, m.todo, m.th, .int .i64 m.c.op, .string m.c.path, .string m.c.az, .string m.c.text, .int .i64 m.c.fd, .int .i64 m.c.tz, .int .i64 m.c.n, .int .i64 m.c.mode, .int .i64 m.c.owner, .int .i64 m.c.group, .int .i64 m.c.want, .bool m.c.make, .bool m.c.alone, .bool m.c.empty, .bool m.c.fin, .int .i64 m.c.hmode, .bool m.c.line, .bool m.c.dir, m.c.args, m.c.env, .bool m.over]
abbrev MT : TypeId := 93
/-- A machine, as it lies. -/
def M (w : World) (p : Nat) (m : Ma) : Prop := w.heap[p]? = some (.cells m.cells MT (0, 0))
theorem M.below {w w' : World} {p : Nat} {m : Ma} (h : M w p m) (hb : Below w.heap.size w w') : M w' p m := (hb.block p (lt_of_heap h)).trans h
theorem M.lt {w : World} {p : Nat} {m : Ma} (h : M w p m) : p < w.heap.size := lt_of_heap h
theorem M.set {w : World} {p : Nat} {m : Ma} (h : M w p m) (i : Nat) (v : Value) (m' : Ma) (hm : m.cells.setIfInBounds i v = m'.cells) : M (w.setCell ⟨p, i, none⟩ v) p m' := by
  unfold M
  rw [heap_setCell_same h, hm]
theorem M.alloc {w : World} {p : Nat} {m : Ma} (h : M w p m) (o : Obj) : M (w.alloc o) p m := (alloc_heap_old _ _ h.lt).trans h
theorem M.setC {w : World} {p : Nat} {m : Ma} (h : M w p m) (o : Nat) (vs : List Value) (m' : Ma) (hm : putA m.cells o vs = m'.cells) : M (w.setCells p o vs) p m' := by
  unfold M
  rw [heap_setCells _ _ _ _ h, hm]
theorem Ca.one (c : Ca) (h1 : c.args.oneCell' = true) (h2 : c.env.oneCell' = true) : c.cells.all (·.oneCell') = true := by
  have e : c.cells.all (·.oneCell') = (c.args.oneCell' && c.env.oneCell') := by
    simp only [Ca.cells, List.all_toArray, List.all_cons, List.all_nil, Bool.and_true]
    rfl
  rw [e, h1, h2]; rfl
theorem M.there {w : World} {p : Nat} {m : Ma} (h : M w p m) : w.there p 7 20 := fun j hj => by
  refine ⟨?_, frozen_of h _⟩
  rw [cell_of h]
  have : m.cells.size = 28 := rfl
  rw [Array.getElem?_eq_getElem (by omega)]; rfl
theorem putA_list : ∀ (vs : List Value) (o : Nat) (C : Array Value), o + vs.length ≤ C.size → (putA C o vs).toList = C.toList.take o ++ (vs ++ C.toList.drop (o + vs.length))
  | [], o, C, _ => by simp [putA]
  | v :: r, o, C, h => by
    have h1 : o < C.toList.length := by simp at h ⊢; omega
    rw [putA, putA_list r (o + 1) _ (by simp at h ⊢; omega)]
    rw [Array.toList_setIfInBounds, List.take_set, List.drop_set, if_pos (by omega)]
    have e1 : (C.toList.take (o + 1)).set o v = C.toList.take o ++ [v] := by
      rw [List.take_succ_eq_append_getElem h1, List.set_append_right _ _ (by simp; omega)]
      have e2 : o - min o C.size = 0 := by simp at h1; omega
      simp [e2]
    rw [e1]
    simp [Nat.add_assoc, Nat.add_comm 1]
theorem putA_whole {C D : Array Value} (h : D.size = C.size) : putA C 0 D.toList = D := by
  apply Array.ext'
  rw [putA_list _ _ _ (by simp [h])]
  simp [h]
theorem M.call {w : World} {p : Nat} {m : Ma} (h : M w p m) (c : Ca) : M (w.setCells p 7 c.cells.toList) p { m with c := c } := h.setC _ _ _ (Array.ext' ((putA_list _ _ _ (show 7 + 20 ≤ 28 by decide)).trans rfl))
theorem M.th' {w : World} {p : Nat} {m : Ma} (h : M w p m) (t : Value) : M (w.setCell ⟨p, 6, none⟩ t) p { m with th := t } := h.set _ _ _ rfl
theorem range_of {W : World} {R : Nat} {C : Array Value} {T : TypeId} {f : Nat × Nat} (h : W.heap[R]? = some (.cells C T f)) : W.rangeAt R 0 C.toList := fun j v hv => by
  rw [Nat.zero_add, cell_of h j]; simpa using hv
theorem M.cell {w : World} {p : Nat} {m : Ma} (h : M w p m) (i : Nat) : w.cell? ⟨p, i, none⟩ = m.cells[i]? := cell_of h i
theorem store_func {w : World} {b i : Nat} {x : Value} (h : w.cell? ⟨b, i, none⟩ = some x) (hf : w.frozen? ⟨b, i, none⟩ = false) (fn : Fn) (fi ca : Array Value) : (store ⟨b, i, none⟩ (.func fn fi ca)).run Tryz.prog w = .ok () (w.setCell ⟨b, i, none⟩ (.func fn fi ca)) := by
  rw [run_store _ _ _ _ _ rfl]
  simp [stored, h, hf]
set_option maxRecDepth 100000 in
set_option maxHeartbeats 2000000 in
theorem sys_any {w : World} {p : Nat} {m : Ma} (h : M w p m) (c : Ca) (fn : Fn) (fi ca : Array Value) (h1 : c.args.oneCell' = true) (h2 : c.env.oneCell' = true) :
    Calls Tryz.prog 72 #[.pointer (some ⟨p, 0, none⟩), .agg c.cells, .func fn fi ca] w fun e w' => e = .returned (.tuple #[]) ∧ M w' p { m with c := c, th := .func fn fi ca } ∧ Mo p w w' := by
  have HI : Hid ((Tryz.prog.info? 39).map (·.size) = some c.cells.size) := Lib.hid rfl
  have HL : Hid ((Tryz.prog.info? 39).map (·.size) = some c.cells.toList.length) := Lib.hid rfl
  have H1 := Lib.hid (c.one h1 h2)
  have HR := Lib.hid (range_of (alloc_heap w (.cells c.cells 39)))
  have ha := h.alloc (.cells c.cells 39)
  have hc := ha.call c
  have HT : Hid ((w.alloc (.cells c.cells 39)).there p 7 c.cells.size) := Lib.hid ha.there
  have hM := hc.th' (.func fn fi ca)
  have hmo : Mo p w ((w.alloc (.cells c.cells 39)).setCells p 7 c.cells.toList) := ((Mo.refl p w).alloc _).setCells _ _
  obtain ⟨C, hC⟩ : ∃ C, c.cells = C := ⟨_, rfl⟩
  rw [hC] at HI HL H1 HR HT hM hmo hc ⊢
  obtain ⟨W, hW⟩ : ∃ W, (w.alloc (.cells C 39)).setCells p 7 C.toList = W := ⟨_, rfl⟩
  rw [hW] at hM hmo hc
  have k6 := hc.cell 6
  have f6 := frozen_of hc 6
  rw [show ({ m with c := c } : Ma).cells[6]? = some m.th from rfl] at k6
  have hst := store_func k6 f6 fn fi ca
  have HM := Lib.hid hM
  have HMO := Lib.hid (hmo.set (i := 6) (.func fn fi ca))
  clear h h1 h2 hC ha hc hM hmo
  go_enter Tryz.func72, Tryz.ntmps72
  go_wp2_with (first | (refine wpList_load_mid rfl 39 _ rfl w.heap.size 0 rfl C.toList _ HR.out Tryz.underlying39 rfl HL.out ?_) | (refine wpList_store_mid rfl 39 _ _ rfl p 7 C rfl rfl HT.out HI.out H1.out ?_; rw [hW]; clear hW))
  exact bodyPost_end (results_none rfl _ _ _) rfl ⟨rfl, HM.out, HMO.out⟩
set_option maxRecDepth 100000 in
set_option maxHeartbeats 2000000 in
theorem exit_any {w : World} {p : Nat} {m : Ma} (h : M w p m) (n : Int) :
    Calls Tryz.prog 50 #[.pointer (some ⟨p, 0, none⟩), .int .i64 n] w fun e w' => e = .returned (.tuple #[]) ∧ M w' p { m with c := { op := 20, n := bits BinOp.and .i64 n 255 }, over := true } ∧ Mo p w w' := by
  obtain ⟨c, hc⟩ : ∃ c : Ca, ({ op := 20, n := bits BinOp.and .i64 n 255 } : Ca) = c := ⟨_, rfl⟩
  rw [hc]
  have HI : Hid ((Tryz.prog.info? 39).map (·.size) = some c.cells.size) := Lib.hid rfl
  have H1 : Hid (c.cells.all (·.oneCell') = true) := Lib.hid (by rw [← hc]; exact Ca.one _ rfl rfl)
  have HT := Lib.hid h.there
  have h7 := h.call c
  have hmo : Mo p w (w.setCells p 7 c.cells.toList) := (Mo.refl p w).setCells _ _
  have HE : Hid (.agg c.cells = Value.agg #[.int .i64 20, .string ⟨#[]⟩, .string ⟨#[]⟩, .string ⟨#[]⟩, .int .i64 0, .int .i64 0, .int .i64 (bits BinOp.and .i64 n 255), .int .i64 0, .int .i64 0, .int .i64 0, .int .i64 0, .bool false, .bool false, .bool false, .bool false, .int .i64 0, .bool false, .bool false, .slice none 0 0, .slice none 0 0]) := Lib.hid (by rw [← hc]; rfl)
  have hM := h7.set 27 (.bool true) { m with c := c, over := true } rfl
  obtain ⟨C, hC⟩ : ∃ C, c.cells = C := ⟨_, rfl⟩
  rw [hC] at HI H1 hM hmo h7 HE
  obtain ⟨W, hW⟩ : ∃ W, w.setCells p 7 C.toList = W := ⟨_, rfl⟩
  rw [hW] at hM hmo h7
  have k6 := h7.cell 27
  have f6 := frozen_of h7 27
  rw [show ({ m with c := c } : Ma).cells[27]? = some (.bool m.over) from rfl] at k6
  have HT : Hid (w.there p 7 C.size) := Lib.hid (by rw [← hC]; exact HT.out)
  have HM := Lib.hid hM
  have HMO := Lib.hid (hmo.set (i := 27) (.bool true))
  clear h hC hM hmo h7
  go_enter Tryz.func50, Tryz.ntmps50
  go_wp2_with (refine wpList_store_mid rfl 39 _ _ rfl p 7 C rfl HE.out.symm HT.out HI.out H1.out ?_; rw [hW]; clear hW)
  exact bodyPost_end (results_none rfl _ _ _) rfl ⟨rfl, HM.out, HMO.out⟩
end Go.Proofs.YtlhlehdajkoogaaGreatDoor
/-
  A world for the witnesses of this seat's rows: the listed variables hold what their initialisers lay; and what the listed variables give the walks.
-/
namespace Go.Proofs.YtlhlehdajkoogaaGreatDoor
open Go.RowKit

theorem own : ownKnob Tryz.prog.godebug = none := by kernel_rfl

def tables : List (String × DataW Unit) := [("math/bits.deBruijn32tab", Rows.laid_math_bits_deBruijn32tab), ("math/bits.deBruijn64tab", Rows.laid_math_bits_deBruijn64tab), ("internal/strconv.uint64pow10", Rows.laid_internal_strconv_uint64pow10), ("unicode/utf8.acceptRanges", Rows.laid_unicode_utf8_acceptRanges), ("strconv.ErrRange", Rows.laid_strconv_ErrRange), ("strconv.ErrSyntax", Rows.laid_strconv_ErrSyntax), ("unicode/utf8.first", Rows.laid_unicode_utf8_first)]

noncomputable def laidWorld (os : Os) : World := World.laidAll Tryz.prog os tables

set_option maxRecDepth 100000 in
theorem laid_met (os : Os) (args : Array Value) : laidMet Tryz.prog tables ((laidWorld os).forCall (fun _ _ => 0) ⟨#[], args, []⟩).memory :=
  laidMet_laidAll _ (by kernel_rfl) (by kernel_rfl)
end Go.Proofs.YtlhlehdajkoogaaGreatDoor
/- steps.Machine's Next: what a machine tells on an answer. -/
namespace Go.Proofs.YtlhlehdajkoogaaGreatDoor
open Go.RowKit

/-- All rows lie as they lay, but those that hold a call, and machines. -/
def Kb (w w' : World) : Prop := ∀ (b : Nat) (C : Array Value) (T : TypeId), T ≠ 39 → T ≠ MT → w.heap[b]? = some (.cells C T (0, 0)) → w'.heap[b]? = some (.cells C T (0, 0))
theorem Kb.refl (w : World) : Kb w w := fun _ _ _ _ _ h => h
theorem Kb.trans {a b c : World} (h : Kb a b) (k : Kb b c) : Kb a c := fun x C T h1 h2 h3 => k x C T h1 h2 (h x C T h1 h2 h3)
theorem Kb.below {w w' : World} (h : Below w.heap.size w w') : Kb w w' := fun b _ _ _ _ hb => (h.block b (lt_of_heap hb)).trans hb
theorem Kb.mo {w w' : World} {p : Nat} {m : Ma} (hM : M w p m) (h : Mo p w w') : Kb w w' := fun b C T _ h2 hb => (h.block b (lt_of_heap hb) (fun e => by
  subst e; unfold M at hM; rw [hb] at hM; injection hM with hM; injection hM with _ hM _; exact h2 hM)).trans hb
theorem Kb.setCells {w : World} {q : Nat} {Z : Array Value} (hq : w.heap[q]? = some (.cells Z 39 (0, 0))) (o : Nat) (vs : List Value) : Kb w (w.setCells q o vs) := fun b C T h1 _ hb => (heap_setCells_other (fun e => by
  subst e; rw [hb] at hq; injection hq with hq; injection hq with _ hq _; exact h1 hq) _ _ _).trans hb
/-- A machine that tells its call now. -/
def Ma.told (m : Ma) : Prop := (m.c.args.oneCell' = true ∧ m.c.env.oneCell' = true) ∧ ((∃ k fi ca, m.th = .func (.func k) fi ca ∧ m.over = false) ∨ (m.th = .nilFunc ∧ m.over = true))
theorem there_of {W : World} {R : Nat} {C : Array Value} {T : TypeId} (h : W.heap[R]? = some (.cells C T (0, 0))) : W.there R 0 C.size := fun j hj => by
  refine ⟨?_, frozen_of h _⟩
  rw [Nat.zero_add, cell_of h j]; simp [hj]
theorem M.range {w : World} {p : Nat} {m : Ma} (h : M w p m) : w.rangeAt p 7 m.c.cells.toList := fun j v hv => by
  rw [cell_of h]
  have hj : j < 20 := (List.getElem?_eq_some_iff.1 hv).1
  have e : m.cells.toList = m.cells.toList.take 7 ++ (m.c.cells.toList ++ [.bool m.over]) := rfl
  have : m.cells.toList[7 + j]? = some v := by
    rw [e, List.getElem?_append_right (by simp [Ma.cells]), List.getElem?_append_left (by simp [Ma.cells, Ca.cells]; omega)]
    have : 7 + j - (m.cells.toList.take 7).length = j := by simp [Ma.cells]
    rw [this]; exact hv
  simpa using this
set_option maxRecDepth 100000 in
set_option maxHeartbeats 4000000 in
theorem then_any {w : World} {p : Nat} {m : Ma} (h : M w p m) (hov : m.over = false) {k : Nat} {ca : Array Value} (hth : m.th = .func (.func k) #[] ca) (r : An) {R : Ma → World → Prop} (hR : ∀ m' w1 w2, Kb w1 w2 → R m' w1 → R m' w2)
    (hen : ∀ (args : Array Value) (w : World), (callFunc k args).run Tryz.prog w = .ok (.enter k args) w)
    (hk : ∀ w1, M w1 p { m with th := .nilFunc } → Kb w w1 → Mo p w w1 → Calls Tryz.prog k (#[.pointer (some ⟨p, 0, none⟩), .agg r.cells] ++ ca) w1 fun e w' => e = .returned (.tuple #[]) ∧ ∃ m', M w' p m' ∧ m'.told ∧ Mo p w1 w' ∧ R m' w') :
    Calls Tryz.prog 28 #[.pointer (some ⟨p, 0, none⟩), .agg r.cells] w fun e w' => ∃ m', e = .returned (.agg m'.c.cells) ∧ M w' p m' ∧ m'.told ∧ Mo p w w' ∧ R m' w' := by
  obtain ⟨C, hC⟩ : ∃ C, r.cells = C := ⟨_, rfl⟩
  have hsz : C.size = 19 := by rw [← hC]; rfl
  rw [hC] at hk ⊢
  have HI : Hid ((Tryz.prog.info? 35).map (·.size) = some C.size) := Lib.hid (by rw [hsz]; rfl)
  have hnf : ∀ (W : World) (fn : Fn) (fi ca : Array Value), (binOp BinOp.neq 91 (.func fn fi ca) .nilFunc).run Tryz.prog W = .ok (.bool true) W := fun _ _ _ _ => rfl
  obtain ⟨wA, hwA⟩ : ∃ wA, (w.alloc (.cells C 35)).alloc (.cells ({ op := 0 } : Ca).cells 39) = wA := ⟨_, rfl⟩
  have hMA : M wA p m := by rw [← hwA]; exact (h.alloc _).alloc _
  have hmoA : Mo p w wA := by rw [← hwA]; exact ((Mo.refl p w).alloc _).alloc _
  have hbox : wA.heap[w.heap.size]? = some (.cells C 35 (0, 0)) := by rw [← hwA]; exact (alloc_heap_old _ _ (by rw [alloc_size]; omega)).trans (alloc_heap w _)
  have hres : wA.heap[w.heap.size + 1]? = some (.cells ({ op := 0 } : Ca).cells 39 (0, 0)) := by rw [← hwA]; have := alloc_heap (w.alloc (.cells C 35)) (.cells ({ op := 0 } : Ca).cells 39); rwa [alloc_size] at this
  have hltA : p < wA.heap.size := hMA.lt
  have hlt := h.lt
  unfold Ca.cells at hwA
  have x27 : wA.cell? ⟨p, 27, none⟩ = some (.bool false) := by rw [hMA.cell 27, ← hov]; rfl
  have x6 : wA.cell? ⟨p, 6, none⟩ = some (.func (.func k) #[] ca) := by rw [hMA.cell 6, ← hth]; rfl
  have f6 := frozen_of hMA 6
  have hst : (store ⟨p, 6, none⟩ .nilFunc).run Tryz.prog wA = .ok () (wA.setCell ⟨p, 6, none⟩ .nilFunc) := by
    rw [run_store _ _ _ _ _ rfl]
    simp [stored, x6, f6]
  obtain ⟨wS, hwS⟩ : ∃ wS, wA.setCell ⟨p, 6, none⟩ .nilFunc = wS := ⟨_, rfl⟩
  have hMS : M wS p { m with th := .nilFunc } := by rw [← hwS]; exact hMA.set 6 .nilFunc _ rfl
  have hmoS : Mo p w wS := by rw [← hwS]; exact hmoA.set _
  have hbS : wS.heap[w.heap.size]? = some (.cells C 35 (0, 0)) := by rw [← hwS]; exact (Below.heap_setCell _ _ _ _ (fun e => by have e' : w.heap.size = p := e; omega)).trans hbox
  have hrS : wS.heap[w.heap.size + 1]? = some (.cells ({ op := 0 } : Ca).cells 39 (0, 0)) := by rw [← hwS]; exact (Below.heap_setCell _ _ _ _ (fun e => by have e' : w.heap.size + 1 = p := e; omega)).trans hres
  rw [hwS] at hst
  have HK := Lib.hid (hk wS hMS (Kb.mo h hmoS) hmoS)
  have HB := Lib.hid hbS
  have HR := Lib.hid hrS
  have HMO := Lib.hid hmoS
  have HNP : Hid (w.heap.size + 1 ≠ p) := Lib.hid (by omega)
  clear h hC hMA hmoA hbox hres hltA f6 hwS hMS hmoS hbS hrS hk
  go_enter Tryz.func28, Tryz.ntmps28
  go_wp2_with (refine wpList_load_row rfl 35 _ rfl w.heap.size rfl 35 C (0, 0) _ HB.out Tryz.underlying35 rfl HI.out ?_)
  refine HK.out.mono ?_
  rintro e w2 ⟨rfl, m', h1, h2, h3, h4⟩
  have hr2 := (h3.block (w.heap.size + 1) (lt_of_heap HR.out) HNP.out).trans HR.out
  have hmo2 := HMO.out.trans h3
  have HH : Hid (m'.c.cells.size = 20) := Lib.hid rfl
  have HL : Hid ((Tryz.prog.info? 39).map (·.size) = some m'.c.cells.toList.length) := Lib.hid rfl
  have HS : Hid ((Tryz.prog.info? 39).map (·.size) = some m'.c.cells.size) := Lib.hid rfl
  have H1 : Hid (m'.c.cells.all (·.oneCell') = true) := Lib.hid (Ca.one _ h2.1.1 h2.1.2)
  have HRG := Lib.hid h1.range
  have hwr := heap_setCells m'.c.cells.toList 0 _ w2 hr2
  have hput : putA ({ op := 0 } : Ca).cells 0 m'.c.cells.toList = m'.c.cells := putA_whole rfl
  rw [hput] at hwr
  have HT : Hid (w2.there (w.heap.size + 1) 0 m'.c.cells.size) := Lib.hid (show w2.there (w.heap.size + 1) 0 (({ op := 0 } : Ca).cells.size) from there_of hr2)
  obtain ⟨w4, hw4⟩ : ∃ w4, w2.setCells (w.heap.size + 1) 0 m'.c.cells.toList = w4 := ⟨_, rfl⟩
  have hM4 : M w4 p m' := by rw [← hw4]; exact (heap_setCells_other (fun e => HNP.out e.symm) _ _ _).trans h1
  have hkb : Kb w2 w4 := by rw [← hw4]; exact Kb.setCells hr2 _ _
  have hmo4 : Mo p w w4 := by
    rw [← hw4]
    exact ⟨(setCells_os _ _ _).1.trans hmo2.os, (setCells_os _ _ _).2.1.trans hmo2.tape, (setCells_os _ _ _).2.2.trans hmo2.output, by rw [setCells_size]; exact hmo2.size, fun k hk hb => (heap_setCells_other (by omega) _ _ _).trans (hmo2.block k hk hb)⟩
  rw [hw4] at hwr
  have HW4 := Lib.hid hwr
  have HM4 := Lib.hid hM4
  have HMO4 := Lib.hid hmo4
  have HRR := Lib.hid (hR m' w2 w4 hkb h4)
  have HTD := Lib.hid h2
  obtain ⟨_, h2⟩ := h2
  have y6 : w2.cell? ⟨p, 6, none⟩ = some m'.th := h1.cell 6
  have y27 : w2.cell? ⟨p, 27, none⟩ = some (.bool m'.over) := h1.cell 27
  have hef : ∀ (W : World) (fn : Fn) (fi ca : Array Value), (binOp BinOp.eql 91 (.func fn fi ca) .nilFunc).run Tryz.prog W = .ok (.bool false) W := fun _ _ _ _ => rfl
  have hee : ∀ (W : World), (binOp BinOp.eql 91 .nilFunc .nilFunc).run Tryz.prog W = .ok (.bool true) W := fun _ => rfl
  clear h3 h4 hr2 hmo2 hput hwr hM4 hkb hmo4 HK HB HR HMO HNP hst x27 x6 hwA hnf hsz HI hov hth hR h1 hlt
  obtain ⟨CC, hCC⟩ : ∃ CC, m'.c.cells = CC := ⟨_, rfl⟩
  rw [hCC] at HH HL HS H1 HRG HT hw4 HW4
  have HCC := Lib.hid hCC
  have HTL : Hid (w2.there (w.heap.size + 1) 0 CC.size) := HT
  clear hCC
  rcases h2 with ⟨k2, fi2, ca2, e1, e2⟩ | ⟨e1, e2⟩ <;> rw [e1] at y6 <;> rw [e2] at y27 <;> clear e1 e2
  all_goals
    go_wp2_with fail
    refine wp_loop_rounds 1 ?_
    rw [rounds_succ]
    go_wp2_with (first | (refine wpList_load_mid rfl 39 _ rfl p 7 rfl CC.toList _ HRG.out Tryz.underlying39 rfl HL.out ?_) | (refine wpList_store_mid rfl 39 _ _ rfl (w.heap.size + 1) 0 CC rfl rfl HT.out HS.out H1.out ?_; rw [hw4]; clear hw4))
    exact bodyPost_ret (v := .agg CC) (results_cell_row rfl _ w4 (w.heap.size + 1) 39 CC (0, 0) _ rfl HW4.out Tryz.underlying39 rfl HS.out) rfl ⟨m', by rw [HCC.out], HM4.out, HTD.out, HMO4.out, HRR.out⟩
end Go.Proofs.YtlhlehdajkoogaaGreatDoor
/- steps.Machine's Next at a machine's beginning. -/
namespace Go.Proofs.YtlhlehdajkoogaaGreatDoor
open Go.RowKit

set_option maxRecDepth 100000 in
set_option maxHeartbeats 4000000 in
theorem start_any {w : World} {p : Nat} {m : Ma} (h : M w p m) (hov : m.over = false) {k : Nat} {ca : Array Value} (hth : m.th = .nilFunc) {td cap : Nat} (htd : m.todo = .slice (some ⟨td, 0, none⟩) 1 cap) {cur : Array Value} (hst : w.heap[td]? = some (.cells cur 96 (0, 0))) (hc0 : cur[0]? = some (.func (.func k) #[] ca)) (hc1 : cur[1]? = some (.bool false)) (r : An) {R : Ma → World → Prop} (hR : ∀ m' w1 w2, Kb w1 w2 → R m' w1 → R m' w2)
    (hen : ∀ (args : Array Value) (w : World), (callFunc k args).run Tryz.prog w = .ok (.enter k args) w)
    (hk : ∀ w1, M w1 p { m with todo := .slice (some ⟨td, 0, none⟩) 0 cap } → Kb w w1 → Mo p w w1 → Calls Tryz.prog k (#[.pointer (some ⟨p, 0, none⟩)] ++ ca) w1 fun e w' => e = .returned (.tuple #[]) ∧ ∃ m', M w' p m' ∧ m'.told ∧ Mo p w1 w' ∧ R m' w') :
    Calls Tryz.prog 28 #[.pointer (some ⟨p, 0, none⟩), .agg r.cells] w fun e w' => ∃ m', e = .returned (.agg m'.c.cells) ∧ M w' p m' ∧ m'.told ∧ Mo p w w' ∧ R m' w' := by
  obtain ⟨C, hC⟩ : ∃ C, r.cells = C := ⟨_, rfl⟩
  have hsz : C.size = 19 := by rw [← hC]; rfl
  rw [hC]
  have HI : Hid ((Tryz.prog.info? 35).map (·.size) = some C.size) := Lib.hid (by rw [hsz]; rfl)
  have hnn : ∀ (W : World), (binOp BinOp.neq 91 .nilFunc .nilFunc).run Tryz.prog W = .ok (.bool false) W := fun _ => rfl
  have hee : ∀ (W : World), (binOp BinOp.eql 91 .nilFunc .nilFunc).run Tryz.prog W = .ok (.bool true) W := fun _ => rfl
  obtain ⟨wA, hwA⟩ : ∃ wA, (w.alloc (.cells C 35)).alloc (.cells ({ op := 0 } : Ca).cells 39) = wA := ⟨_, rfl⟩
  have hMA : M wA p m := by rw [← hwA]; exact (h.alloc _).alloc _
  have hmoA : Mo p w wA := by rw [← hwA]; exact ((Mo.refl p w).alloc _).alloc _
  have hbox : wA.heap[w.heap.size]? = some (.cells C 35 (0, 0)) := by rw [← hwA]; exact (alloc_heap_old _ _ (by rw [alloc_size]; omega)).trans (alloc_heap w _)
  have hres : wA.heap[w.heap.size + 1]? = some (.cells ({ op := 0 } : Ca).cells 39 (0, 0)) := by rw [← hwA]; have := alloc_heap (w.alloc (.cells C 35)) (.cells ({ op := 0 } : Ca).cells 39); rwa [alloc_size] at this
  have hltA : p < wA.heap.size := hMA.lt
  have hlt := h.lt
  unfold Ca.cells at hwA
  have x27 : wA.cell? ⟨p, 27, none⟩ = some (.bool false) := by rw [hMA.cell 27, ← hov]; rfl
  have x6 : wA.cell? ⟨p, 6, none⟩ = some .nilFunc := by rw [hMA.cell 6, ← hth]; rfl
  have x5 : wA.cell? ⟨p, 5, none⟩ = some (.slice (some ⟨td, 0, none⟩) 1 cap) := by rw [hMA.cell 5, ← htd]; rfl
  have x4 : wA.cell? ⟨p, 4, none⟩ = some (.int .i64 0) := hMA.cell 4
  have f5 := frozen_of hMA 5
  have htdA : wA.heap[td]? = some (.cells cur 96 (0, 0)) := by rw [← hwA]; exact (alloc_heap_old _ _ (by rw [alloc_size]; have := lt_of_heap hst; omega)).trans ((alloc_heap_old _ _ (lt_of_heap hst)).trans hst)
  have t0 : wA.cell? ⟨td, 0, none⟩ = some (.func (.func k) #[] ca) := (cell_of htdA 0).trans hc0
  have t1 : wA.cell? ⟨td, 1, none⟩ = some (.bool false) := (cell_of htdA 1).trans hc1
  obtain ⟨wB, hwB⟩ : ∃ wB, wA.alloc (.cells #[.nilFunc, .bool false] 96) = wB := ⟨_, rfl⟩
  have hMB : M wB p m := by rw [← hwB]; exact hMA.alloc _
  have hB : wB.heap[wA.heap.size]? = some (.cells #[.nilFunc, .bool false] 96 (0, 0)) := by rw [← hwB]; exact alloc_heap _ _
  have HTB : Hid (wB.there wA.heap.size 0 (#[.func (.func k) #[] ca, .bool false] : Array Value).size) := Lib.hid (show wB.there wA.heap.size 0 (#[.nilFunc, .bool false] : Array Value).size from there_of hB)
  have HIB : Hid ((Tryz.prog.info? 96).map (·.size) = some (#[.func (.func k) #[] ca, .bool false] : Array Value).size) := Lib.hid rfl
  have HSB : Hid ((#[.func (.func k) #[] ca, .bool false] : Array Value).all (·.oneCell') = true) := Lib.hid (by simp [Value.oneCell'])
  obtain ⟨w5, hw5⟩ : ∃ w5, wB.setCells wA.heap.size 0 (#[.func (.func k) #[] ca, .bool false] : Array Value).toList = w5 := ⟨_, rfl⟩
  have h5B : w5.heap[wA.heap.size]? = some (.cells #[.func (.func k) #[] ca, .bool false] 96 (0, 0)) := by rw [← hw5]; exact heap_setCells _ _ _ _ hB
  have hM5 : M w5 p m := by rw [← hw5]; exact (heap_setCells_other (by omega) _ _ _).trans hMB
  have y5 : w5.cell? ⟨p, 5, none⟩ = some (.slice (some ⟨td, 0, none⟩) 1 cap) := by rw [hM5.cell 5, ← htd]; rfl
  have g5 := frozen_of hM5 5
  obtain ⟨w6, hw6⟩ : ∃ w6, w5.setCell ⟨p, 5, none⟩ (.slice (some ⟨td, 0, none⟩) 0 cap) = w6 := ⟨_, rfl⟩
  have hM6 : M w6 p { m with todo := .slice (some ⟨td, 0, none⟩) 0 cap } := by rw [← hw6]; exact hM5.set 5 _ _ rfl
  have hmo6 : Mo p w w6 := by
    rw [← hw6, ← hw5, ← hwB]
    refine Mo.set ⟨?_, ?_, ?_, ?_, ?_⟩ _
    · exact (setCells_os _ _ _).1.trans hmoA.os
    · exact (setCells_os _ _ _).2.1.trans hmoA.tape
    · exact (setCells_os _ _ _).2.2.trans hmoA.output
    · rw [setCells_size, alloc_size]; exact Nat.le_succ_of_le hmoA.size
    · intro b hb hne
      have := hmoA.size
      exact (heap_setCells_other (by omega) _ _ _).trans ((alloc_heap_old _ _ (by omega)).trans (hmoA.block b hb hne))
  have z4 : w6.cell? ⟨p, 4, none⟩ = some (.int .i64 0) := hM6.cell 4
  have h6B : w6.heap[wA.heap.size]? = some (.cells #[.func (.func k) #[] ca, .bool false] 96 (0, 0)) := by rw [← hw6]; exact (Below.heap_setCell _ _ _ _ (fun e => by have e' : wA.heap.size = p := e; omega)).trans h5B
  have z0 : w6.cell? ⟨wA.heap.size, 0, none⟩ = some (.func (.func k) #[] ca) := cell_of h6B 0
  have h6r : w6.heap[w.heap.size + 1]? = some (.cells ({ op := 0 } : Ca).cells 39 (0, 0)) := by
    have hl := lt_of_heap hres
    rw [← hw6]; refine (Below.heap_setCell _ _ _ _ (fun e => by have e' : w.heap.size + 1 = p := e; omega)).trans ?_
    rw [← hw5]; refine (heap_setCells_other (by omega) _ _ _).trans ?_
    rw [← hwB]; exact (alloc_heap_old _ _ hl).trans hres
  have HK := Lib.hid (hk w6 hM6 (Kb.mo h hmo6) hmo6)
  have HR := Lib.hid h6r
  have HMO := Lib.hid hmo6
  have HNP : Hid (w.heap.size + 1 ≠ p) := Lib.hid (by omega)
  have HWB := Lib.hid hwB
  have HW5 := Lib.hid hw5
  have HW6 := Lib.hid hw6
  clear h hC hMA hmoA hbox hres hltA hMB hB h5B hM5 hM6 hmo6 h6B h6r hk hwB hw5 hw6 htdA hst
  go_enter Tryz.func28, Tryz.ntmps28
  go_wp2_with fail
  refine wp_loop_rounds 2 ?_
  rw [rounds_succ]
  go_wp2_with (refine wpList_store_mid rfl 96 _ _ rfl wA.heap.size 0 #[.func (.func k) #[] ca, .bool false] rfl rfl (by rw [HWB.out]; exact HTB.out) HIB.out HSB.out ?_; rw [HWB.out, HW5.out]; have hw6 := HW6.out)
  refine HK.out.mono ?_
  rintro e w2 ⟨rfl, m', h1, h2, h3, h4⟩
  have hr2 := (h3.block (w.heap.size + 1) (lt_of_heap HR.out) HNP.out).trans HR.out
  have hmo2 := HMO.out.trans h3
  have HH : Hid (m'.c.cells.size = 20) := Lib.hid rfl
  have HL : Hid ((Tryz.prog.info? 39).map (·.size) = some m'.c.cells.toList.length) := Lib.hid rfl
  have HS : Hid ((Tryz.prog.info? 39).map (·.size) = some m'.c.cells.size) := Lib.hid rfl
  have H1 : Hid (m'.c.cells.all (·.oneCell') = true) := Lib.hid (Ca.one _ h2.1.1 h2.1.2)
  have HRG := Lib.hid h1.range
  have hwr := heap_setCells m'.c.cells.toList 0 _ w2 hr2
  have hput : putA ({ op := 0 } : Ca).cells 0 m'.c.cells.toList = m'.c.cells := putA_whole rfl
  rw [hput] at hwr
  have HT : Hid (w2.there (w.heap.size + 1) 0 m'.c.cells.size) := Lib.hid (show w2.there (w.heap.size + 1) 0 (({ op := 0 } : Ca).cells.size) from there_of hr2)
  obtain ⟨w4, hw4⟩ : ∃ w4, w2.setCells (w.heap.size + 1) 0 m'.c.cells.toList = w4 := ⟨_, rfl⟩
  have hM4 : M w4 p m' := by rw [← hw4]; exact (heap_setCells_other (fun e => HNP.out e.symm) _ _ _).trans h1
  have hkb : Kb w2 w4 := by rw [← hw4]; exact Kb.setCells hr2 _ _
  have hmo4 : Mo p w w4 := by
    rw [← hw4]
    exact ⟨(setCells_os _ _ _).1.trans hmo2.os, (setCells_os _ _ _).2.1.trans hmo2.tape, (setCells_os _ _ _).2.2.trans hmo2.output, by rw [setCells_size]; exact hmo2.size, fun k hk hb => (heap_setCells_other (by omega) _ _ _).trans (hmo2.block k hk hb)⟩
  rw [hw4] at hwr
  have HW4 := Lib.hid hwr
  have HM4 := Lib.hid hM4
  have HMO4 := Lib.hid hmo4
  have HRR := Lib.hid (hR m' w2 w4 hkb h4)
  have HTD := Lib.hid h2
  obtain ⟨_, h2⟩ := h2
  have y6 : w2.cell? ⟨p, 6, none⟩ = some m'.th := h1.cell 6
  have y27 : w2.cell? ⟨p, 27, none⟩ = some (.bool m'.over) := h1.cell 27
  have hef : ∀ (W : World) (fn : Fn) (fi ca : Array Value), (binOp BinOp.eql 91 (.func fn fi ca) .nilFunc).run Tryz.prog W = .ok (.bool false) W := fun _ _ _ _ => rfl
  clear h3 h4 hr2 hmo2 hput hwr hM4 hkb hmo4 HK HR HMO HNP x27 hsz HI hov hth hR h1 hlt hnn
  obtain ⟨CC, hCC⟩ : ∃ CC, m'.c.cells = CC := ⟨_, rfl⟩
  rw [hCC] at HH HL HS H1 HRG HT hw4 HW4
  have HCC := Lib.hid hCC
  have HTL : Hid (w2.there (w.heap.size + 1) 0 CC.size) := HT
  clear hCC
  rcases h2 with ⟨k2, fi2, ca2, e1, e2⟩ | ⟨e1, e2⟩ <;> rw [e1] at y6 <;> rw [e2] at y27 <;> clear e1 e2
  all_goals
    go_wp2_with (first | (rw [rounds_succ]) | (refine wpList_load_mid rfl 39 _ rfl p 7 rfl CC.toList _ HRG.out Tryz.underlying39 rfl HL.out ?_) | (refine wpList_store_mid rfl 39 _ _ rfl (w.heap.size + 1) 0 CC rfl rfl HT.out HS.out H1.out ?_; rw [hw4]; clear hw4))
    exact bodyPost_ret (v := .agg CC) (results_cell_row rfl _ w4 (w.heap.size + 1) 39 CC (0, 0) _ rfl HW4.out Tryz.underlying39 rfl HS.out) rfl ⟨m', by rw [HCC.out], HM4.out, HTD.out, HMO4.out, HRR.out⟩
end Go.Proofs.YtlhlehdajkoogaaGreatDoor
/- login's Next; New's small steps. -/
namespace Go.Proofs.YtlhlehdajkoogaaGreatDoor
open Go.RowKit

abbrev LT : TypeId := 72
/-- A program, as it lies. -/
def L (w : World) (l p : Nat) : Prop := w.heap[l]? = some (.cells #[.pointer (some ⟨p, 0, none⟩)] LT (0, 0))
theorem L.kb {w w' : World} {l p : Nat} (h : L w l p) (k : Kb w w') : L w' l p := k _ _ _ (by decide) (by decide) h
/-- What a program tells, and what is then. -/
def NextP (p : Nat) (w : World) (R : Ma → World → Prop) (e : Ending) (w' : World) : Prop := ∃ m', e = .returned (.agg m'.c.cells) ∧ M w' p m' ∧ m'.told ∧ Mo p w w' ∧ R m' w'
theorem still_load_row {P : Program} {o : Oper} {a : Act} {w : World} {K : Act → Prop} (ty : TypeId) (x : Operand) (ho : o.op = .load ty x)
    (g : Nat) (hx : a.eval x = .pointer (some ⟨g, 0, none⟩)) (t : TypeId) (cs : Array Value) (fr : Nat × Nat) (d : TypeDesc) (hg : w.heap[g]? = some (.cells cs t fr))
    (hu : P.underlying ty = some d) (hd : (match d with | .struct _ | .array _ _ => true | _ => false) = true) (hi : (P.info? ty).map (·.size) = some cs.size)
    (h : K (a.put o.dst (.agg cs))) : o.still P a w K := by
  unfold Oper.still execOp
  simp only [ho, hx, Instr.loadAt, Instr.sureAddr, Sem.run_bind, Sem.run_pure, Result.andThen_ok, run_loadVar_row w g t ty cs fr d hg hu hd hi]
  exact ⟨rfl, h⟩
set_option maxRecDepth 100000 in
set_option maxHeartbeats 4000000 in
theorem lnext_any {w : World} {l p : Nat} {m : Ma} (hl : L w l p) (h : M w p m) (r : An) {R : Ma → World → Prop} (hR : ∀ m' w1 w2, Kb w1 w2 → R m' w1 → R m' w2)
    (hN : ∀ w1, M w1 p m → Kb w w1 → Mo p w w1 → Calls Tryz.prog 28 #[.pointer (some ⟨p, 0, none⟩), .agg r.cells] w1 (NextP p w1 R)) :
    Calls Tryz.prog 14 #[.pointer (some ⟨l, 0, none⟩), .agg r.cells] w (NextP p w R) := by
  obtain ⟨wA, hwA⟩ : ∃ wA, (w.alloc (.cells r.cells 35)).alloc (.cells ({ op := 0 } : Ca).cells 39) = wA := ⟨_, rfl⟩
  have hMA : M wA p m := by rw [← hwA]; exact (h.alloc _).alloc _
  have hmoA : Mo p w wA := by rw [← hwA]; exact ((Mo.refl p w).alloc _).alloc _
  have hbox : wA.heap[w.heap.size]? = some (.cells r.cells 35 (0, 0)) := by rw [← hwA]; exact (alloc_heap_old _ _ (by rw [alloc_size]; omega)).trans (alloc_heap w _)
  have hres : wA.heap[w.heap.size + 1]? = some (.cells ({ op := 0 } : Ca).cells 39 (0, 0)) := by rw [← hwA]; have := alloc_heap (w.alloc (.cells r.cells 35)) (.cells ({ op := 0 } : Ca).cells 39); rwa [alloc_size] at this
  have hkA : Kb w wA := Kb.mo h hmoA
  have xl : wA.cell? ⟨l, 0, none⟩ = some (.pointer (some ⟨p, 0, none⟩)) := cell_of (hl.kb hkA) 0
  have HN := Lib.hid (hN wA.drew (hMA.below (Below.refl _ _).drew) (hkA.trans (Kb.below (Below.refl _ _).drew)) hmoA.drew)
  have HR : Hid (wA.drew.heap[w.heap.size + 1]? = some (.cells ({ op := 0 } : Ca).cells 39 (0, 0))) := Lib.hid hres
  have HB : Hid (wA.drew.heap[w.heap.size]? = some (.cells r.cells 35 (0, 0))) := Lib.hid hbox
  have HMO := Lib.hid hmoA.drew
  have HNP : Hid (w.heap.size + 1 ≠ p) := Lib.hid (by have := h.lt; omega)
  have HI : Hid ((Tryz.prog.info? 35).map (·.size) = some r.cells.size) := Lib.hid rfl
  obtain ⟨C, hC⟩ : ∃ C, r.cells = C := ⟨_, rfl⟩
  rw [hC] at hwA HN HB HI ⊢
  clear hN h hl hMA hmoA hbox hres hkA hC
  unfold Ca.cells at hwA
  go_enter Tryz.func14, Tryz.ntmps14
  go_wp2_with fail
  have hu : Tryz.prog.underlying 35 = _ := Tryz.underlying35
  refine wp_region_still_tail 5 (by kernel_rfl) (by kernel_rfl) ?_
  simp only [List.take_succ_cons, List.take_zero, List.drop_succ_cons, List.drop_zero]
  still_step
  still_step
  still_step
  still_step
  refine wpStill_step (fun K hK => ?_)
  rw [if_pos (show Region.wanted _ _ = true from rfl)]
  refine still_load_row 35 _ rfl w.heap.size rfl 35 C (0, 0) _ HB.out hu rfl HI.out (hK _ ?_)
  clear hK K hu
  refine wpStill_nil ?_
  go_wp2_with fail
  refine HN.out.mono ?_
  rintro e w2 ⟨m', rfl, h1, h2, h3, h4⟩
  have hr2 := (h3.block (w.heap.size + 1) (lt_of_heap HR.out) HNP.out).trans HR.out
  have hmo2 := HMO.out.trans h3
  have HH : Hid (m'.c.cells.size = 20) := Lib.hid rfl
  have HL : Hid ((Tryz.prog.info? 39).map (·.size) = some m'.c.cells.toList.length) := Lib.hid rfl
  have HS : Hid ((Tryz.prog.info? 39).map (·.size) = some m'.c.cells.size) := Lib.hid rfl
  have H1 : Hid (m'.c.cells.all (·.oneCell') = true) := Lib.hid (Ca.one _ h2.1.1 h2.1.2)
  have HRG := Lib.hid h1.range
  have hwr := heap_setCells m'.c.cells.toList 0 _ w2 hr2
  have hput : putA ({ op := 0 } : Ca).cells 0 m'.c.cells.toList = m'.c.cells := putA_whole rfl
  rw [hput] at hwr
  have HT : Hid (w2.there (w.heap.size + 1) 0 m'.c.cells.size) := Lib.hid (show w2.there (w.heap.size + 1) 0 (({ op := 0 } : Ca).cells.size) from there_of hr2)
  obtain ⟨w4, hw4⟩ : ∃ w4, w2.setCells (w.heap.size + 1) 0 m'.c.cells.toList = w4 := ⟨_, rfl⟩
  have hM4 : M w4 p m' := by rw [← hw4]; exact (heap_setCells_other (fun e => HNP.out e.symm) _ _ _).trans h1
  have hkb : Kb w2 w4 := by rw [← hw4]; exact Kb.setCells hr2 _ _
  have hmo4 : Mo p w w4 := by
    rw [← hw4]
    exact ⟨(setCells_os _ _ _).1.trans hmo2.os, (setCells_os _ _ _).2.1.trans hmo2.tape, (setCells_os _ _ _).2.2.trans hmo2.output, by rw [setCells_size]; exact hmo2.size, fun k hk hb => (heap_setCells_other (by omega) _ _ _).trans (hmo2.block k hk hb)⟩
  rw [hw4] at hwr
  have HW4 := Lib.hid hwr
  have HM4 := Lib.hid hM4
  have HMO4 := Lib.hid hmo4
  have HRR := Lib.hid (hR m' w2 w4 hkb h4)
  have HTD := Lib.hid h2
  obtain ⟨_, h2⟩ := h2
  clear h3 h4 hr2 hmo2 hput hwr hM4 hkb hmo4 HN HB HR HMO HNP hwA hR h1 h2 xl
  obtain ⟨CC, hCC⟩ : ∃ CC, m'.c.cells = CC := ⟨_, rfl⟩
  rw [hCC] at HH HL HS H1 HRG HT hw4 HW4 ⊢
  have HCC := Lib.hid hCC
  have HTL : Hid (w2.there (w.heap.size + 1) 0 CC.size) := HT
  clear hCC
  go_wp2_with (refine wpList_store_mid rfl 39 _ _ rfl (w.heap.size + 1) 0 CC rfl rfl HT.out HS.out H1.out ?_; rw [hw4]; clear hw4)
  exact bodyPost_ret (v := .agg CC) (results_cell_row rfl _ w4 (w.heap.size + 1) 39 CC (0, 0) _ rfl HW4.out Tryz.underlying39 rfl HS.out) rfl ⟨m', by rw [HCC.out], HM4.out, HTD.out, HMO4.out, HRR.out⟩
end Go.Proofs.YtlhlehdajkoogaaGreatDoor
/- LoginInit's plain law: gettys and children. -/
namespace Go.Proofs.YtlhlehdajkoogaaGreatDoor.LGI
inductive Md where
  | fork (g : List Int) (t : Nat)
  | wait (g : List Int)
def keepsM (g : List Int) (t : Nat) : Md :=
  if h : t < g.length then (if g[t] = 0 then .fork g t else keepsM g (t + 1)) else .wait g
termination_by g.length - t
def Md.row : Md → List Int
  | .fork g _ => g
  | .wait g => g
def Md.ok : Md → Prop
  | .fork g t => g[t]? = some 0 ∧ ∀ j, j < t → g[j]? ≠ some 0
  | .wait g => ∀ x ∈ g, x ≠ 0
/-- What holds when a call is told. -/
structure Inv (T : Nat) (md : Md) (next : Int) (live : List Int) (want : Nat) : Prop where
  ok : md.ok
  len : md.row.length = T
  cnt : md.row.count 0 = want
  perm : (md.row.filter (· ≠ 0)).Perm live
  nod : live.Nodup
  rng : ∀ x ∈ live, 2 ≤ x ∧ x < next
theorem keepsM_row (g : List Int) (t : Nat) : (keepsM g t).row = g := by
  fun_induction keepsM g t with
  | case1 => rfl
  | case2 _ _ _ ih => exact ih
  | case3 => rfl
theorem keepsM_in (g : List Int) (t : Nat) : match keepsM g t with
    | .fork g' t' => t' < g'.length
    | .wait _ => True := by
  fun_induction keepsM g t with
  | case1 _ h => exact h
  | case2 _ _ _ ih => exact ih
  | case3 => trivial
theorem keepsM_ok (g : List Int) (t : Nat) (h : ∀ j, j < t → g[j]? ≠ some 0) : (keepsM g t).ok := by
  fun_induction keepsM g t with
  | case1 t h1 h2 => exact ⟨by rw [List.getElem?_eq_getElem h1, h2], h⟩
  | case2 t h1 h2 ih =>
    refine ih fun j hj => ?_
    by_cases he : j = t
    · subst he; rw [List.getElem?_eq_getElem h1]; simpa using h2
    · exact h j (by omega)
  | case3 t h1 =>
    intro x hx hx0
    obtain ⟨j, hj, rfl⟩ := List.getElem_of_mem hx
    exact h j (by omega) (by rw [List.getElem?_eq_getElem hj, hx0])
theorem count_set {g : List Int} {t : Nat} {x : Int} (h : g[t]? = some 0) (hx : x ≠ 0) : (g.set t x).count 0 + 1 = g.count 0 ∧ ((g.set t x).filter (· ≠ 0)).Perm (g.filter (· ≠ 0) ++ [x]) := by
  induction g generalizing t with
  | nil => simp at h
  | cons a g ih =>
    cases t with
    | zero =>
      obtain rfl : a = 0 := by simpa using h
      refine ⟨by simp [hx], ?_⟩
      simp only [List.set_cons_zero, List.filter_cons, ne_eq, hx, not_false_eq_true, decide_true, if_true, not_true_eq_false, decide_false, Bool.false_eq_true, if_false]
      exact (List.perm_append_comm (l₁ := [x])).trans (List.Perm.refl _)
    | succ t =>
      obtain ⟨h1, h2⟩ := ih (t := t) (by simpa using h)
      constructor
      · simp only [List.set_cons_succ, List.count_cons]; omega
      · simp only [List.set_cons_succ, List.filter_cons]
        split
        · exact h2.cons a
        · exact h2
theorem Inv.start (T : Nat) : Inv T (keepsM (List.replicate T 0) 0) 2 [] T := by
  refine ⟨keepsM_ok _ _ (fun j hj => by omega), ?_, ?_, ?_, List.nodup_nil, fun x hx => by simp at hx⟩
  · rw [keepsM_row]; simp
  · rw [keepsM_row]; simp
  · rw [keepsM_row]; simp
theorem Inv.fork {T : Nat} {g : List Int} {t : Nat} {next : Int} {live : List Int} {want : Nat} (h : Inv T (.fork g t) next live want) (hn : 2 ≤ next) :
    1 ≤ want ∧ Inv T (keepsM (g.set t next) (t + 1)) (next + 1) (live ++ [next]) (want - 1) := by
  obtain ⟨⟨h0, h1⟩, h2, h3, h4, h5, h6⟩ := h
  dsimp only [Md.row] at h2 h3 h4
  obtain ⟨c1, c2⟩ := count_set (x := next) h0 (by omega)
  refine ⟨by omega, keepsM_ok _ _ ?_, ?_, ?_, ?_, ?_, ?_⟩
  · intro j hj
    by_cases he : j = t
    · subst he
      rw [List.getElem?_set_self (by rcases Nat.lt_or_ge j g.length with h | h; exact h; rw [List.getElem?_eq_none h] at h0; cases h0)]
      simp; omega
    · rw [List.getElem?_set_ne (by omega)]; exact h1 j (by omega)
  · rw [keepsM_row]; simpa using h2
  · rw [keepsM_row]; omega
  · rw [keepsM_row]; exact c2.trans (h4.append_right _)
  · rw [List.nodup_append]
    refine ⟨h5, by simp, ?_⟩
    intro a ha b hb
    have := h6 a ha
    simp at hb
    omega
  · intro x hx
    simp at hx
    rcases hx with hx | hx
    · have := h6 x hx; omega
    · omega
def gone (g : List Int) (p : Int) : List Int := g.map fun x => if x = p then 0 else x
theorem gone_none {g : List Int} {p : Int} (h : ∀ x ∈ g, x ≠ p) : gone g p = g := by
  unfold gone
  conv => rhs; rw [← List.map_id g]
  exact List.map_congr_left fun x hx => by rw [if_neg (h x hx)]; rfl
theorem Inv.other {T : Nat} {g : List Int} {next : Int} {live : List Int} {want : Nat} (h : Inv T (.wait g) next live want) {p : Int} (hp : next ≤ p) :
    want = 0 ∧ live.length = T ∧ Inv T (keepsM (gone g p) 0) next live want := by
  obtain ⟨h0, h2, h3, h4, h5, h6⟩ := h
  dsimp only [Md.row, Md.ok] at h0 h2 h3 h4
  have hf : g.filter (· ≠ 0) = g := List.filter_eq_self.2 fun x hx => by simpa using h0 x hx
  have hg : gone g p = g := gone_none fun x hx => by
    have := h6 x (h4.mem_iff.1 (by rw [hf]; exact hx)); omega
  rw [hg]
  refine ⟨?_, ?_, keepsM_ok _ _ (fun j hj => by omega), by rw [keepsM_row]; exact h2, by rw [keepsM_row]; exact h3, by rw [keepsM_row]; exact h4, h5, h6⟩
  · rw [← h3]; exact List.count_eq_zero.2 fun hh => h0 0 hh rfl
  · rw [← h4.length_eq, hf]; exact h2
theorem gone_count {g : List Int} {p : Int} (h0 : ∀ x ∈ g, x ≠ 0) : (gone g p).count 0 = g.count p ∧ (gone g p).filter (· ≠ 0) = g.filter (· ≠ p) := by
  unfold gone
  induction g with
  | nil => exact ⟨rfl, rfl⟩
  | cons a g ih =>
    obtain ⟨h1, h2⟩ := ih fun x hx => h0 x (by simp [hx])
    have ha := h0 a (by simp)
    rw [List.map_cons, List.count_cons, List.count_cons, List.filter_cons, List.filter_cons, h1, h2]
    by_cases he : a = p
    · subst he; simp
    · simp [he, ha]
theorem Inv.wait {T : Nat} {g : List Int} {next : Int} {live : List Int} {want : Nat} (h : Inv T (.wait g) next live want) {k : Nat} {p : Int} (hp : live[k]? = some p) :
    Inv T (keepsM (gone g p) 0) next (live.take k ++ live.drop (k + 1)) 1 := by
  obtain ⟨h0, h2, h3, h4, h5, h6⟩ := h
  dsimp only [Md.row, Md.ok] at h0 h2 h3 h4
  have hf : g.filter (· ≠ 0) = g := List.filter_eq_self.2 fun x hx => by simpa using h0 x hx
  rw [hf] at h4
  obtain ⟨c1, c2⟩ := gone_count (p := p) h0
  have hk : k < live.length := by
    rcases Nat.lt_or_ge k live.length with h | h
    · exact h
    · rw [List.getElem?_eq_none h] at hp; cases hp
  have hpk : live[k] = p := by rw [List.getElem?_eq_getElem hk] at hp; exact Option.some.inj hp
  have he : live.take k ++ live.drop (k + 1) = live.eraseIdx k := (List.eraseIdx_eq_take_drop_succ live k).symm
  have hee : live.eraseIdx k = live.erase p := by
    rw [← hpk, List.erase_eq_eraseIdx_of_idxOf rfl, h5.idxOf_getElem k hk]
  refine ⟨keepsM_ok _ _ (fun j hj => by omega), by rw [keepsM_row]; simpa [gone] using h2, ?_, ?_, ?_, ?_⟩
  · rw [keepsM_row, c1, h4.count_eq]
    have hm : p ∈ live := hpk ▸ List.getElem_mem hk
    exact h5.count.trans (if_pos hm)
  · rw [keepsM_row, c2, he, hee]
    have : live.erase p = live.filter (· != p) := h5.erase_eq_filter p
    rw [this]
    have h7 : (fun x : Int => decide (x ≠ p)) = (· != p) := by funext x; by_cases hx : x = p <;> simp [bne, hx]
    rw [h7]
    exact h4.filter _
  · rw [he, hee]; exact h5.erase p
  · intro x hx
    rw [he, hee] at hx
    exact h6 x (List.mem_of_mem_erase hx)
theorem gone_len (g : List Int) (p : Int) : (gone g p).length = g.length := by simp [gone]
theorem gone_step {g : List Int} {i : Nat} (hi : i < g.length) (p : Int) :
    (g[i] = p → (gone (g.take i) p ++ g.drop i).set i 0 = gone (g.take (i + 1)) p ++ g.drop (i + 1)) ∧ (g[i] ≠ p → gone (g.take i) p ++ g.drop i = gone (g.take (i + 1)) p ++ g.drop (i + 1)) := by
  have e1 : g.drop i = g[i] :: g.drop (i + 1) := List.drop_eq_getElem_cons hi
  have e2 : g.take (i + 1) = g.take i ++ [g[i]] := List.take_succ_eq_append_getElem hi
  have e3 : (gone (g.take i) p).length = i := by rw [gone_len, List.length_take]; omega
  rw [e2, e1]
  constructor
  · intro h
    rw [List.set_append_right _ _ (by omega), e3, Nat.sub_self, List.set_cons_zero]
    unfold gone
    rw [List.map_append, List.map_cons, List.map_nil, if_pos h, List.append_assoc]; rfl
  · intro h
    unfold gone
    rw [List.map_append, List.map_cons, List.map_nil, if_neg h, List.append_assoc]; rfl
end Go.Proofs.YtlhlehdajkoogaaGreatDoor.LGI
/- init: gettys, gets, waits, keeps. -/
namespace Go.Proofs.YtlhlehdajkoogaaGreatDoor
open Go.RowKit
open LGI (Md keepsM gone)

/-- Numbers in a row that a machine made. -/
def Own (F : Nat → Prop) (w : World) (v : Value) (g : List Int) : Prop :=
  ∃ b cap cur, F b ∧ v = .slice (some ⟨b, 0, none⟩) g.length cap ∧ w.heap[b]? = some (.cells cur 3 (0, 0)) ∧ ∀ j, j < g.length → cur[j]? = some (.int .i64 (g.getD j 0))
theorem M.ne {w : World} {p b : Nat} {m : Ma} (h : M w p m) {C : Array Value} (hb : w.heap[b]? = some (.cells C 3 (0, 0))) : b ≠ p := by
  intro e; subst e
  unfold M at h
  rw [hb] at h
  have h3 : (3 : TypeId) = MT := by injection h with h; injection h
  exact absurd h3 (by decide)
theorem Own.mo {F : Nat → Prop} {w w' : World} {v : Value} {g : List Int} {p : Nat} {m : Ma} (h : Own F w v g) (hM : M w p m) (k : Mo p w w') : Own F w' v g := by
  obtain ⟨b, cap, cur, hF, rfl, h1, h2⟩ := h
  exact ⟨b, cap, cur, hF, rfl, (k.block b (lt_of_heap h1) (hM.ne h1)).trans h1, h2⟩
theorem own_row {w : World} {B n : Nat} {v : Value} {g : List Int} (h : w.ownsRow B 3 1 v n (g.map (Value.int .i64))) (hn : v ≠ .slice none 0 0) (hg : n = g.length) {F : Nat → Prop} (hF : ∀ k, B ≤ k → F k) : Own F w v g := by
  subst hg
  rcases h.2 with ⟨rfl, _⟩ | ⟨b, cap, cur, rfl, hB, h1, h2, _, h4, h5⟩
  · exact absurd rfl hn
  · refine ⟨b, cap, cur, hF b hB, rfl, h1, fun j hj => ?_⟩
    have h6 : (cur.toList.take (g.length * 1))[j]? = (g.map (Value.int .i64))[j]? := by rw [h5]
    rw [List.getElem?_take, if_pos (by omega), List.getElem?_map, List.getElem?_eq_getElem hj] at h6
    rw [List.getD_eq_getElem?_getD, List.getElem?_eq_getElem hj]
    simpa using h6
def blockOf : Value → Nat
  | .slice (some ⟨b, _, _⟩) _ _ => b
  | _ => 0
theorem own_lt {w : World} {B n : Nat} {v : Value} {l : List Value} (h : w.ownsRow B 3 1 v n l) (hn : v ≠ .slice none 0 0) : B ≤ blockOf v := by
  rcases h.2 with ⟨rfl, _⟩ | ⟨b, cap, cur, rfl, h1, _⟩
  · exact absurd rfl hn
  · exact h1
set_option maxRecDepth 100000 in
set_option maxHeartbeats 2000000 in
theorem waits_any {w : World} {p : Nat} {m : Ma} (h : M w p m) :
    Calls Tryz.prog 110 #[.pointer (some ⟨p, 0, none⟩)] w fun e w' => e = .returned (.tuple #[]) ∧ M w' p { m with c := { op := 21 }, th := .func (.func 154) #[] #[] } ∧ Mo p w w' := by
  have H := Lib.hid h
  clear h
  go_enter Tryz.func110, Tryz.ntmps110
  go_wp2_with fail
  refine (sys_any H.out { op := 21 } _ _ _ rfl rfl).mono ?_
  rintro e w1 ⟨rfl, h1, h2⟩
  have H1 := Lib.hid h1
  have H2 := Lib.hid h2
  clear h1 h2
  go_wp2
  exact bodyPost_end (results_none rfl _ _ _) rfl ⟨rfl, H1.out, H2.out⟩
set_option maxRecDepth 100000 in
set_option maxHeartbeats 2000000 in
theorem gets_any {F : Nat → Prop} {w : World} (hF : ∀ k, w.heap.size ≤ k → F k) {p : Nat} {m : Ma} (h : M w p m) {g : List Int} (ho : Own F w m.gettys g) (t : Nat) (ht : t < g.length) (hg : g.length < 100) (pid : Int) :
    Calls Tryz.prog 115 #[.pointer (some ⟨p, 0, none⟩), .int .i64 (t : Int), .int .i64 pid] w fun e w' => e = .returned (.tuple #[]) ∧ ∃ v', M w' p { m with gettys := v' } ∧ Own F w' v' (g.set t pid) ∧ Mo p w w' := by
  have H := Lib.hid h
  have k1 := h.cell 1
  rw [show m.cells[1]? = some m.gettys from rfl] at k1
  obtain ⟨b, cap, cur, _, hv, hb, hc⟩ := ho
  rw [hv] at k1
  have HC := Lib.hid (Tryz.slices_Clone_int b 0 g.length cap g w (Nat.le_refl _) (by omega) (fun j hj => by rw [Nat.zero_add, cell_of hb]; exact hc j hj))
  clear h hc hv hb
  go_enter Tryz.func115, Tryz.ntmps115
  go_wp2_with fail
  refine HC.out.mono ?_
  rintro e w1 ⟨v', rfl, ho, hne, hbel⟩
  have hsz := own_lt ho hne
  obtain ⟨b', cap', cur', hFb, rfl, h1, h2⟩ := own_row (g := g) (by simpa using ho) hne rfl hF
  have hsz : w.heap.size ≤ b' := hsz
  have hM1 := H.out.below hbel
  have hmo := (Mo.refl p w).below hbel
  clear ho hne hbel HC k1
  have hbp := hM1.ne h1
  have k1 := hM1.cell 1
  rw [show m.cells[1]? = some m.gettys from rfl] at k1
  have f1 := frozen_of hM1 1
  have hM2 := hM1.set 1 (.slice (some ⟨b', 0, none⟩) g.length cap') { m with gettys := .slice (some ⟨b', 0, none⟩) g.length cap' } rfl
  have hmo2 := hmo.set (i := 1) (.slice (some ⟨b', 0, none⟩) g.length cap')
  have h12 : (w1.setCell ⟨p, 1, none⟩ (.slice (some ⟨b', 0, none⟩) g.length cap')).heap[b']? = some (.cells cur' 3 (0, 0)) := (Below.heap_setCell _ _ _ _ hbp).trans h1
  obtain ⟨W, hW⟩ : ∃ W, w1.setCell ⟨p, 1, none⟩ (.slice (some ⟨b', 0, none⟩) g.length cap') = W := ⟨_, rfl⟩
  rw [hW] at hM2 hmo2 h12
  have c1 : W.cell? ⟨p, 1, none⟩ = some (.slice (some ⟨b', 0, none⟩) g.length cap') := hM2.cell 1
  have ct : W.cell? ⟨b', t, none⟩ = some (.int .i64 (g.getD t 0)) := (cell_of h12 t).trans (h2 t ht)
  have ft := frozen_of h12 t
  have htz : (t : Int) < g.length := by omega
  have HO : Hid (Own F (W.setCell ⟨b', t, none⟩ (.int .i64 pid)) (.slice (some ⟨b', 0, none⟩) g.length cap') (g.set t pid)) := Lib.hid (by
    refine ⟨b', cap', _, hFb, by rw [List.length_set], heap_setCell_same h12 _, fun j hj => ?_⟩
    rw [List.length_set] at hj
    rw [Array.getElem?_setIfInBounds, List.getD_eq_getElem?_getD, List.getElem?_set]
    by_cases he : t = j
    · subst he
      have := h2 t ht
      rw [if_pos rfl, if_pos rfl, if_pos ht]
      rcases Nat.lt_or_ge t cur'.size with h | h
      · rw [if_pos h]; rfl
      · rw [Array.getElem?_eq_none h] at this; cases this
    · rw [if_neg he, if_neg he, h2 j hj, List.getD_eq_getElem?_getD])
  have hM3 : M (W.setCell ⟨b', t, none⟩ (.int .i64 pid)) p { m with gettys := .slice (some ⟨b', 0, none⟩) g.length cap' } := (Below.heap_setCell _ _ _ _ (fun e => hbp e.symm)).trans hM2
  have HM := Lib.hid hM3
  have hb1 : w.heap.size ≤ b' := hsz
  have HMO : Hid (Mo p w (W.setCell ⟨b', t, none⟩ (.int .i64 pid))) := Lib.hid ⟨hmo2.os, hmo2.tape, hmo2.output, by rw [World.size_setCell]; exact hmo2.size, fun k hk hb => (Below.heap_setCell _ _ _ _ (fun e => by have e' : k = b' := e; omega)).trans (hmo2.block k hk hb)⟩
  clear hM2 hmo2 hM3 h12 h2 h1
  go_wp2_with fail
  exact bodyPost_end (results_none rfl _ _ _) rfl ⟨rfl, _, HM.out, HO.out, HMO.out⟩
/-- Where keeps stops: it forks, or it waits. -/
def Kp (F : Nat → Prop) (p : Nat) (m : Ma) (w : World) : Md → Prop
  | .wait _ => M w p { m with c := { op := 21 }, th := .func (.func 154) #[] #[] }
  | .fork _ t => ∃ b, F b ∧ w.heap[b]? = some (.cells #[.int .i64 (t : Int)] 3 (0, 0)) ∧ M w p { m with c := { op := 18 }, th := .func (.func 111) #[] #[.pointer (some ⟨b, 0, none⟩)] }
set_option maxRecDepth 100000 in
set_option maxHeartbeats 4000000 in
theorem keeps_any {F : Nat → Prop} {p : Nat} {g : List Int} (hg : g.length < 100) : ∀ (n t : Nat) {w : World} {m : Ma}, (∀ k, w.heap.size ≤ k → F k) → g.length - t = n → t ≤ g.length → M w p m → Own F w m.gettys g →
    Calls Tryz.prog 71 #[.pointer (some ⟨p, 0, none⟩), .int .i64 (t : Int)] w fun e w' => e = .returned (.tuple #[]) ∧ Kp F p m w' (keepsM g t) ∧ Mo p w w' := by
  intro n
  induction n with
  | zero =>
    intro t w m hF hn ht h ho
    obtain rfl : t = g.length := by omega
    rw [keepsM, dif_neg (by omega)]
    have HM := Lib.hid (h.alloc (.cells #[.int .i64 (g.length : Int)] 3))
    have HMO := Lib.hid ((Mo.refl p w).alloc (.cells #[.int .i64 (g.length : Int)] 3))
    obtain ⟨b, cap, cur, _, hv, hb, hc⟩ := ho
    have k1 : (w.alloc (.cells #[.int .i64 (g.length : Int)] 3)).cell? ⟨p, 1, none⟩ = some (.slice (some ⟨b, 0, none⟩) g.length cap) := by rw [HM.out.cell 1, ← hv]; rfl
    clear h hv hb hc
    go_enter Tryz.func71, Tryz.ntmps71
    go_wp2_with fail
    go_quiet (fail)
    have HM2 : Hid (M ((w.alloc (.cells #[.int .i64 (g.length : Int)] 3)).drewN nq) p m) := Lib.hid (HM.out.below (belowDrewN (Below.refl _ _) _))
    have HMO2 := Lib.hid (HMO.out.drewN nq)
    clear HM HMO k1
    go_wp2_with fail
    refine (waits_any HM2.out).mono ?_
    rintro e w1 ⟨rfl, h1, h2⟩
    have H1 := Lib.hid h1
    have H2 := Lib.hid (HMO2.out.trans h2)
    clear h1 h2 HM2 HMO2
    go_wp2
    exact bodyPost_end (results_none rfl _ _ _) rfl ⟨rfl, H1.out, H2.out⟩
  | succ n ih =>
    intro t w m hF hn ht h ho
    have hlt : t < g.length := by omega
    have hltz : (t : Int) < g.length := by omega
    have hnez : ((t : Int) == (g.length : Int)) = false := by simp; omega
    have hne0 : ¬ ((t : Int) = (g.length : Int)) := by omega
    have HM := Lib.hid (h.alloc (.cells #[.int .i64 (t : Int)] 3))
    have HMO := Lib.hid ((Mo.refl p w).alloc (.cells #[.int .i64 (t : Int)] 3))
    have HOW := Lib.hid (ho.mo h HMO.out)
    have hmf : ∀ (fn : Fn) (first cap : Array Value) (w : World), (Instr.makeFunc fn first cap).run Tryz.prog w = .ok (.func fn first cap) w := fun _ _ _ _ => rfl
    have HB := Lib.hid (alloc_heap w (.cells #[.int .i64 (t : Int)] 3))
    have hbp : w.heap.size ≠ p := by have := h.lt; omega
    obtain ⟨b, cap, cur, _, hv, hb, hc⟩ := HOW.out
    have k1 : (w.alloc (.cells #[.int .i64 (t : Int)] 3)).cell? ⟨p, 1, none⟩ = some (.slice (some ⟨b, 0, none⟩) g.length cap) := by rw [HM.out.cell 1, ← hv]; rfl
    have kt : (w.alloc (.cells #[.int .i64 (t : Int)] 3)).cell? ⟨b, t, none⟩ = some (.int .i64 g[t]) := by
      rw [cell_of hb, hc t hlt, List.getD_eq_getElem?_getD, List.getElem?_eq_getElem hlt]; rfl
    clear h ho hv hb hc
    by_cases hz : g[t] = 0
    · rw [keepsM, dif_pos hlt, if_pos hz]
      rw [hz] at kt
      go_enter Tryz.func71, Tryz.ntmps71
      go_wp2_with fail
      go_quiet (fail)
      rename Nat => n1
      have k1' : ((w.alloc (.cells #[.int .i64 (t : Int)] 3)).drewN n1).cell? ⟨p, 1, none⟩ = some (.slice (some ⟨b, 0, none⟩) g.length cap) := k1
      have kt' : ((w.alloc (.cells #[.int .i64 (t : Int)] 3)).drewN n1).cell? ⟨b, t, none⟩ = some (.int .i64 0) := kt
      go_wp2_with fail
      go_quiet (fail)
      have HM2 : Hid (M ((w.alloc (.cells #[.int .i64 (t : Int)] 3)).drewN (n1 + nq)) p m) := Lib.hid (HM.out.below (belowDrewN (Below.refl _ _) _))
      have HMO2 := Lib.hid (HMO.out.drewN (n1 + nq))
      have HO2 := Lib.hid (HOW.out.mo HM.out ((Mo.refl p _).drewN (n1 + nq)))
      clear k1 k1' kt kt' HM HMO
      go_wp2_with fail
      refine (sys_any HM2.out { op := 18 } _ _ _ rfl rfl).mono ?_
      rintro e w1 ⟨rfl, h1, h2⟩
      have HB2 : Hid (w1.heap[w.heap.size]? = some (.cells #[.int .i64 (t : Int)] 3 (0, 0))) := Lib.hid ((h2.block w.heap.size (lt_of_heap HB.out) hbp).trans HB.out)
      have H1 := Lib.hid h1
      have H2 := Lib.hid (HMO2.out.trans h2)
      clear h1 h2 HM2 HMO2
      go_wp2
      exact bodyPost_end (results_none rfl _ _ _) rfl ⟨rfl, ⟨_, hF _ (Nat.le_refl _), HB2.out, H1.out⟩, H2.out⟩
    · rw [keepsM, dif_pos hlt, if_neg hz]
      have hzb : (g[t] != 0) = true := by simpa using hz
      have hwr : wrap64 ((t : Int) + 1) = ((t + 1 : Nat) : Int) := by unfold wrap64; omega
      go_enter Tryz.func71, Tryz.ntmps71
      go_wp2_with fail
      go_quiet (fail)
      rename Nat => n1
      have k1' : ((w.alloc (.cells #[.int .i64 (t : Int)] 3)).drewN n1).cell? ⟨p, 1, none⟩ = some (.slice (some ⟨b, 0, none⟩) g.length cap) := k1
      have kt' : ((w.alloc (.cells #[.int .i64 (t : Int)] 3)).drewN n1).cell? ⟨b, t, none⟩ = some (.int .i64 g[t]) := kt
      go_wp2_with fail
      go_quiet (fail)
      have HM2 : Hid (M ((w.alloc (.cells #[.int .i64 (t : Int)] 3)).drewN (n1 + nq)) p m) := Lib.hid (HM.out.below (belowDrewN (Below.refl _ _) _))
      have HMO2 := Lib.hid (HMO.out.drewN (n1 + nq))
      have HO2 := Lib.hid (HOW.out.mo HM.out ((Mo.refl p _).drewN (n1 + nq)))
      clear k1 k1' kt kt' HM HMO
      go_wp2_with fail
      refine (ih (t + 1) (fun k hk => hF k (Nat.le_trans HMO2.out.size hk)) (by omega) (by omega) HM2.out HO2.out).mono ?_
      rintro e w1 ⟨rfl, h1, h2⟩
      have H1 := Lib.hid h1
      have H2 := Lib.hid (HMO2.out.trans h2)
      clear h1 h2 HM2 HMO2
      go_wp2
      exact bodyPost_end (results_none rfl _ _ _) rfl ⟨rfl, H1.out, H2.out⟩
end Go.Proofs.YtlhlehdajkoogaaGreatDoor
/- A machine is made: Push, steps.New, programs, New. -/
namespace Go.Proofs.YtlhlehdajkoogaaGreatDoor
open Go.RowKit

theorem below_grown {w0 w w' : World} {B : Nat} {row : Option Nat} (h : Below B w0 w) (hB : B ≤ w0.heap.size) (hg : w.grownBy w' row) (hrow : ∀ k, row = some k → B ≤ k) : Below B w0 w' :=
  ⟨hg.os.trans h.os, hg.tape.trans h.tape, hg.output.trans h.output, Nat.le_trans h.size hg.size, fun j hj => (hg.block j (Nat.lt_of_lt_of_le hj (Nat.le_trans hB h.size)) (fun e => by have := hrow j e.symm; omega)).trans (h.block j hj)⟩
theorem info_step : (Tryz.prog.info? 96).map (fun i => (i.zero, i.size, i.bytes)) = some (some (.agg #[.nilFunc, .bool false]), 2, 16) := by kernel_rfl
/-- One step alone is to be done. -/
def One (w : World) (m : Ma) (f : Value) : Prop := ∃ td cap cur, m.todo = .slice (some ⟨td, 0, none⟩) 1 cap ∧ w.heap[td]? = some (.cells cur 96 (0, 0)) ∧ cur[0]? = some f ∧ cur[1]? = some (.bool false)
theorem One.kb {w w' : World} {m : Ma} {f : Value} (h : One w m f) (k : Kb w w') : One w' m f := by
  obtain ⟨td, cap, cur, h1, h2, h3⟩ := h
  exact ⟨td, cap, cur, h1, k _ _ _ (by decide) (by decide) h2, h3⟩
theorem two_new (W : World) (f : Value) (T : TypeId) : ∀ (j : Nat) (u : Value), [f, .bool false][j]? = some u → (W.alloc (.cells #[f, .bool false] T)).cell? ((⟨W.heap.size, 0, none⟩ : Addr).add j) = some u := fun j u h => by
  have hadd : (⟨W.heap.size, 0, none⟩ : Addr).add j = ⟨W.heap.size, j, none⟩ := by unfold Addr.add; split <;> simp_all
  rw [hadd, cell_of (alloc_heap W _)]
  simpa using h
theorem own_two {w : World} {B : Nat} {v f : Value} {T : TypeId} (h : w.ownsRow B T 2 v 1 [f, .bool false]) : ∃ td cap cur, v = .slice (some ⟨td, 0, none⟩) 1 cap ∧ w.heap[td]? = some (.cells cur T (0, 0)) ∧ cur[0]? = some f ∧ cur[1]? = some (.bool false) := by
  rcases h.2 with ⟨_, h0⟩ | ⟨b, cap, cur, rfl, _, h1, _, _, _, h5⟩
  · cases h0
  · refine ⟨b, cap, cur, rfl, h1, ?_, ?_⟩
    · have : (cur.toList.take (1 * 2))[0]? = some f := by rw [h5]; rfl
      rw [List.getElem?_take, if_pos (by omega)] at this
      simpa using this
    · have : (cur.toList.take (1 * 2))[1]? = some (.bool false) := by rw [h5]; rfl
      rw [List.getElem?_take, if_pos (by omega)] at this
      simpa using this
set_option maxRecDepth 100000 in
set_option maxHeartbeats 4000000 in
theorem push_any {w : World} {p : Nat} {m : Ma} (h : M w p m) (htd : m.todo = .slice none 0 0) (fn : Fn) (fi ca : Array Value) :
    Calls Tryz.prog 49 #[.pointer (some ⟨p, 0, none⟩), .func fn fi ca] w fun e w' => e = .returned (.tuple #[]) ∧ ∃ v, M w' p { m with todo := v } ∧ One w' { m with todo := v } (.func fn fi ca) ∧ Mo p w w' := by
  obtain ⟨i0, hi, hz0, hz1, hz2⟩ := info_parts info_step
  have k5 : w.cell? ⟨p, 5, none⟩ = some (.slice none 0 0) := by rw [h.cell 5, ← htd]; rfl
  have HH := Lib.hid h
  clear h
  go_enter Tryz.func49, Tryz.ntmps49
  go_wp2_with (at_builtin; refine wpList_append_own _ rfl _ _ 90 rfl w.heap.size 96 i0 (.agg #[.nilFunc, .bool false]) 2 16 Tryz.underlying90 hi hz0 hz1 hz2 rfl (by decide) _ _ _ rfl (World.ownsRow_nil _ _ _ _) ⟨_, 0, none⟩ 1 1 [.func fn fi ca, .bool false] rfl rfl (two_new _ _ _) (by simp [Value.oneCell']) (by unfold maxLen; omega) (by omega) (by rw [alloc_size]; omega) ?_; intro v2 w2 hown2 hgrow2 hnil2; obtain ⟨td, cap, cur, rfl, q1, q2, q3⟩ := own_two hown2; have hb2 := below_grown ((Below.refl w.heap.size w).alloc (Nat.le_refl _) _) (Nat.le_refl _) hgrow2 (fun k hk => by cases hk); have hM2 := HH.out.below hb2; have k52 := hM2.cell 5; rw [show m.cells[5]? = some m.todo from rfl, htd] at k52; have f52 := frozen_of hM2 5; have HQ := Lib.hid q1; have HB := Lib.hid hb2; have HM := Lib.hid (hM2.set 5 (.slice (some ⟨td, 0, none⟩) 1 cap) { m with todo := .slice (some ⟨td, 0, none⟩) 1 cap } rfl); have HQ2 := Lib.hid q2; have HQ3 := Lib.hid q3; have HNE : Hid (td ≠ p) := Lib.hid (fun e => by subst e; unfold M at hM2; rw [q1] at hM2; injection hM2 with hM2; injection hM2 with _ hM2 _; exact absurd hM2 (by decide)); clear hown2 hgrow2 hnil2 hb2 hM2 q1 q2 q3)
  exact bodyPost_end (results_none rfl _ _ _) rfl ⟨rfl, _, HM.out, ⟨td, cap, cur, rfl, (Below.heap_setCell _ _ _ _ HNE.out).trans HQ.out, HQ2.out, HQ3.out⟩, ((Mo.refl p w).below HB.out).set _⟩
theorem Mo.bel {B p : Nat} {w0 w w' : World} (h : Below B w0 w) (k : Mo p w w') (hp : B ≤ p) (hB : B ≤ w0.heap.size) : Below B w0 w' :=
  h.trans ⟨k.os, k.tape, k.output, k.size, fun b hb => k.block b (by have := h.size; omega) (by omega)⟩
set_option maxRecDepth 100000 in
set_option maxHeartbeats 4000000 in
theorem snew_any {w : World} (prog : ByteArray) (fn : Fn) (fi ca : Array Value) :
    Calls Tryz.prog 26 #[.agg #[.string prog, .slice none 0 0, .bool false, .int .i64 0], .func fn fi ca] w fun e w' => ∃ p v, e = .returned (.pointer (some ⟨p, 0, none⟩)) ∧ M w' p { prog := prog, todo := v, th := .nilFunc, c := { op := 0 } } ∧ One w' { prog := prog, todo := v, th := .nilFunc, c := { op := 0 } } (.func fn fi ca) ∧ w.heap.size ≤ p ∧ Below w.heap.size w w' := by
  have hM : M ((w.alloc (.cells #[.string prog, .slice none 0 0, .bool false, .int .i64 0] 69)).alloc (.cells ({ prog := prog, todo := .slice none 0 0, th := .nilFunc, c := { op := 0 } } : Ma).cells MT)) (w.heap.size + 1) { prog := prog, todo := .slice none 0 0, th := .nilFunc, c := { op := 0 } } := by
    have := alloc_heap (w.alloc (.cells #[.string prog, .slice none 0 0, .bool false, .int .i64 0] 69)) (.cells ({ prog := prog, todo := .slice none 0 0, th := .nilFunc, c := { op := 0 } } : Ma).cells MT)
    rwa [alloc_size] at this
  have hb : Below w.heap.size w ((w.alloc (.cells #[.string prog, .slice none 0 0, .bool false, .int .i64 0] 69)).alloc (.cells ({ prog := prog, todo := .slice none 0 0, th := .nilFunc, c := { op := 0 } } : Ma).cells MT)) := belowA (belowA (Below.refl _ _) _) _
  have HM := Lib.hid hM
  have HB := Lib.hid hb
  clear hM hb
  go_enter Tryz.func26, Tryz.ntmps26
  go_wp2_with fail
  refine (push_any HM.out rfl fn fi ca).mono ?_
  rintro e w2 ⟨rfl, v, h1, h2, h3⟩
  have H1 := Lib.hid h1
  have H2 := Lib.hid h2
  have H3 := Lib.hid (Mo.bel HB.out h3 (by omega) (Nat.le_refl _))
  clear h1 h2 h3 HM HB
  go_wp2
  go_ret
  exact ⟨_, v, rfl, H1.out, H2.out, by omega, H3.out⟩
end Go.Proofs.YtlhlehdajkoogaaGreatDoor
/- login.New: init, getty, and what is none. -/
namespace Go.Proofs.YtlhlehdajkoogaaGreatDoor
open Go.RowKit

set_option maxRecDepth 100000 in
theorem prog_init (w : World) : Calls Tryz.prog 25 #[.string ⟨#[105, 110, 105, 116]⟩] w fun e w' => e = .returned (.func (.func 44) #[] #[]) ∧ w' = w := by
  go_enter Tryz.func25, Tryz.ntmps25
  go_wp2
  go_ret
  exact ⟨rfl, rfl⟩
set_option maxRecDepth 100000 in
theorem prog_getty (w : World) : Calls Tryz.prog 25 #[.string ⟨#[103, 101, 116, 116, 121]⟩] w fun e w' => e = .returned (.func (.func 45) #[] #[]) ∧ w' = w := by
  go_enter Tryz.func25, Tryz.ntmps25
  go_wp2
  go_ret
  exact ⟨rfl, rfl⟩
set_option maxRecDepth 100000 in
theorem prog_dog (w : World) : Calls Tryz.prog 25 #[.string ⟨#[100, 111, 103]⟩] w fun e w' => e = .returned .nilFunc ∧ w' = w := by
  go_enter Tryz.func25, Tryz.ntmps25
  go_wp2
  go_ret
  exact ⟨rfl, rfl⟩
abbrev FT : TypeId := 64
theorem info_text : (Tryz.prog.info? 9).map (fun i => (i.zero, i.size, i.bytes)) = some (some (.string ByteArray.empty), 1, 16) := by kernel_rfl
/-- One word alone. -/
def Words (w : World) (v : Value) (s : ByteArray) : Prop := ∃ b cap cur, v = .slice (some ⟨b, 0, none⟩) 1 cap ∧ w.heap[b]? = some (.cells cur 9 (0, 0)) ∧ cur[0]? = some (.string s) ∧ 1 ≤ cap
theorem own_word {w : World} {B : Nat} {v : Value} {s : ByteArray} (h : w.ownsRow B 9 1 v 1 [.string s]) : B ≤ blockOf v ∧ Words w v s := by
  rcases h.2 with ⟨_, h0⟩ | ⟨b, cap, cur, rfl, hB, h1, hcp, _, _, h5⟩
  · cases h0
  · refine ⟨hB, b, cap, cur, rfl, h1, ?_, hcp⟩
    have : (cur.toList.take (1 * 1))[0]? = some (.string s) := by rw [h5]; rfl
    rw [List.getElem?_take, if_pos (by omega)] at this
    simpa using this
theorem Words.kb {w w' : World} {v : Value} {s : ByteArray} (h : Words w v s) (k : Kb w w') : Words w' v s := by
  obtain ⟨b, cap, cur, rfl, h1, h2, h3⟩ := h
  exact ⟨b, cap, cur, rfl, k _ _ _ (by decide) (by decide) h1, h2, h3⟩
/-- A program that has begun nothing yet. -/
structure Nw (w0 w : World) (prog : ByteArray) (d : FuncId) (s : ByteArray) (e : Ending) (l p pd pw : Nat) (v wv : Value) : Prop where
  ret : e = .returned (.pointer (some ⟨l, 0, none⟩))
  l : L w l p
  m : M w p { prog := prog, todo := v, th := .nilFunc, c := { op := 0 } }
  one : One w { prog := prog, todo := v, th := .nilFunc, c := { op := 0 } } (.func (.func 27) #[] #[.pointer (some ⟨pd, 0, none⟩), .pointer (some ⟨pw, 0, none⟩)])
  pd : w.heap[pd]? = some (.cells #[.func (.func d) #[] #[]] FT (0, 0))
  pw : w.heap[pw]? = some (.cells #[wv] 22 (0, 0))
  words : Words w wv s
  ge : w0.heap.size ≤ p
  bel : Below w0.heap.size w0 w
set_option maxRecDepth 100000 in
set_option maxHeartbeats 4000000 in
theorem lnew_any {w : World} (prog : ByteArray) (d : FuncId) (hp : ∀ W, Calls Tryz.prog 25 #[.string prog] W fun e w' => e = .returned (.func (.func d) #[] #[]) ∧ w' = W) {ab : Nat} {a0 a1 : ByteArray} (ha : w.heap[ab]? = some (.cells #[.string a0, .string a1] 9 (0, 0))) :
    Calls Tryz.prog 12 #[.string prog, .slice (some ⟨ab, 0, none⟩) 2 2] w fun e w' => ∃ l p pd pw v wv, Nw w w' prog d a1 e l p pd pw v wv := by
  have HP := Lib.hid (hp w)
  obtain ⟨w1, hw1⟩ : ∃ w1, (w.alloc (.cells #[.nilFunc] FT)).setCell ⟨w.heap.size, 0, none⟩ (.func (.func d) #[] #[]) = w1 := ⟨_, rfl⟩
  have hst : (store ⟨w.heap.size, 0, none⟩ (.func (.func d) #[] #[])).run Tryz.prog (w.alloc (.cells #[.nilFunc] FT)) = .ok () w1 := by
    rw [store_func (cell_of (alloc_heap w (.cells #[.nilFunc] FT)) 0) (frozen_of (alloc_heap w (.cells #[.nilFunc] FT)) 0), ← hw1]
  have h1 : w1.heap[w.heap.size]? = some (.cells #[.func (.func d) #[] #[]] FT (0, 0)) := by rw [← hw1]; exact heap_setCell_same (alloc_heap _ _) _
  have hb1 : Below w.heap.size w w1 := by rw [← hw1]; exact (belowA (Below.refl _ _) _).setCell (Nat.le_refl _) _
  have hs1 : w1.heap.size = w.heap.size + 1 := by rw [← hw1, World.size_setCell, alloc_size]
  have x1 : w1.cell? ⟨w.heap.size, 0, none⟩ = some (.func (.func d) #[] #[]) := cell_of h1 0
  have hef : ∀ (W : World) (fn : Fn) (fi ca : Array Value), (binOp BinOp.eql FT (.func fn fi ca) .nilFunc).run Tryz.prog W = .ok (.bool false) W := fun _ _ _ _ => rfl
  obtain ⟨i0, hi, hz0, hz1, hz2⟩ := info_parts info_text
  have h2p := alloc_heap w1 (.cells #[.slice none 0 0] 22)
  rw [hs1] at h2p
  have hb2 := belowA hb1 (.cells #[.slice none 0 0] 22)
  have h2d := (alloc_heap_old w1 (.cells #[.slice none 0 0] 22) (by omega)).trans h1
  have h2a := (hb2.block ab (lt_of_heap ha)).trans ha
  have hs2 := alloc_size w1 (.cells #[.slice none 0 0] 22)
  obtain ⟨w2, hw2⟩ : ∃ w2, w1.alloc (.cells #[.slice none 0 0] 22) = w2 := ⟨_, rfl⟩
  rw [hw2] at h2p hb2 h2d h2a hs2
  have p0 : w2.drew.cell? ⟨w.heap.size + 1, 0, none⟩ = some (.slice none 0 0) := cell_of (w := w2.drew) h2p 0
  have HA2 : Hid (∀ (j : Nat) (u : Value), [Value.string a1][j]? = some u → w2.drew.cell? ((⟨ab, 1, none⟩ : Addr).add j) = some u) := Lib.hid (fun j u hj => by
    have hadd : (⟨ab, 1, none⟩ : Addr).add j = ⟨ab, 1 + j, none⟩ := by unfold Addr.add; split <;> simp_all
    rw [hadd]
    refine (cell_of (w := w2.drew) h2a _).trans ?_
    cases j with
    | zero => exact hj
    | succ j => cases hj)
  have HB2 := Lib.hid hb2
  have H2P : Hid (w2.drew.heap[w.heap.size + 1]? = some (.cells #[.slice none 0 0] 22 (0, 0))) := Lib.hid h2p
  have H2D : Hid (w2.drew.heap[w.heap.size]? = some (.cells #[.func (.func d) #[] #[]] FT (0, 0))) := Lib.hid h2d
  have HS2 : Hid (w2.drew.heap.size = w.heap.size + 2) := Lib.hid (show w2.heap.size = w.heap.size + 2 by omega)
  have HSN := Lib.hid (fun W => snew_any (w := W) prog (.func 27) #[] #[.pointer (some ⟨w.heap.size, 0, none⟩), .pointer (some ⟨w.heap.size + 1, 0, none⟩)])
  have hmf : ∀ (fn : Fn) (first cap : Array Value) (w : World), (Instr.makeFunc fn first cap).run Tryz.prog w = .ok (.func fn first cap) w := fun _ _ _ _ => rfl
  clear h2p hb2 h2d h2a hs2 hp ha hw1 h1 hb1
  unfold FT at hst hef
  go_enter Tryz.func12, Tryz.ntmps12
  go_wp2_with fail
  refine HP.out.mono ?_
  rintro e w' ⟨rfl, rfl⟩
  go_wp2_with fail
  go_still_tail 3, (by kernel_rfl)
  change wpList _ _ _ _ _ w2.drew
  have HB3 := Lib.hid HB2.out.drew
  clear HB2 hw2 hst x1 hs1
  generalize w2.drew = w3 at *
  refine wpList_append_own _ rfl _ _ 22 rfl w'.heap.size 9 i0 (.string ByteArray.empty) 1 16 Tryz.underlying22 hi hz0 hz1 hz2 rfl (by decide) _ _ _ rfl (World.ownsRow_nil _ _ _ _) ⟨ab, 1, none⟩ 1 1 [.string a1] rfl rfl HA2.out (by simp [Value.oneCell']) (by unfold maxLen; omega) (by omega) (by have := HS2.out; omega) ?_
  intro v2 w4 hown4 hgrow4 hnil4
  obtain ⟨hge, b4, cap4, cur4, rfl, q1, q2⟩ := own_word hown4
  have hb4 : Below w3.heap.size w3 w4 := below_grown (Below.refl _ _) (Nat.le_refl _) hgrow4 (fun k hk => by cases hk)
  have h4p := (hb4.block _ (lt_of_heap H2P.out)).trans H2P.out
  have h4d := (hb4.block _ (lt_of_heap H2D.out)).trans H2D.out
  have c4 := cell_of h4p 0
  have f4 := frozen_of h4p 0
  rw [show (#[Value.slice none 0 0] : Array Value)[0]? = some (.slice none 0 0) from rfl] at c4
  have hne : b4 ≠ w'.heap.size + 1 := fun e => by
    subst e; rw [q1] at h4p; injection h4p with h4p; injection h4p with _ h4p _; exact absurd h4p (by decide)
  have hb5 := ((HB3.out.trans (hb4.mono (by have := HS2.out; omega))).setCell (p := ⟨w'.heap.size + 1, 0, none⟩) (show w'.heap.size ≤ w'.heap.size + 1 by omega) (.slice (some ⟨b4, 0, none⟩) 1 cap4))
  obtain ⟨w5, hw5⟩ : ∃ w5, w4.setCell ⟨w'.heap.size + 1, 0, none⟩ (.slice (some ⟨b4, 0, none⟩) 1 cap4) = w5 := ⟨_, rfl⟩
  rw [hw5] at hb5
  have h5p : w5.heap[w'.heap.size + 1]? = some (.cells #[.slice (some ⟨b4, 0, none⟩) 1 cap4] 22 (0, 0)) := by rw [← hw5]; exact heap_setCell_same h4p _
  have h5d : w5.heap[w'.heap.size]? = some (.cells #[.func (.func d) #[] #[]] FT (0, 0)) := by rw [← hw5]; exact (Below.heap_setCell _ _ _ _ (fun e => by have e' : w'.heap.size = w'.heap.size + 1 := e; omega)).trans h4d
  have h5w : w5.heap[b4]? = some (.cells cur4 9 (0, 0)) := by rw [← hw5]; exact (Below.heap_setCell _ _ _ _ hne).trans q1
  have HB5 := Lib.hid hb5
  have H5P := Lib.hid h5p
  have H5D := Lib.hid h5d
  have H5W : Hid (Words w5 (.slice (some ⟨b4, 0, none⟩) 1 cap4) a1) := Lib.hid ⟨b4, cap4, cur4, rfl, h5w, q2⟩
  clear hown4 hgrow4 hnil4 hge q1 q2 hb4 h4p h4d hb5 h5p h5d h5w hne HB3 H2P H2D HS2 HA2 p0
  go_wp2_with fail
  refine (HSN.out _).mono ?_
  rintro e w6 ⟨p, v, rfl, h1, h2, h3, h4⟩
  have hge : w'.heap.size ≤ p := by have := HB5.out.size; omega
  have HL := Lib.hid (alloc_heap w6 (.cells #[.pointer (some ⟨p, 0, none⟩)] LT))
  have hk6 := Kb.below h4
  have hk7 : Kb w6 (w6.alloc (.cells #[.pointer (some ⟨p, 0, none⟩)] LT)) := Kb.below ((Below.refl _ _).alloc (Nat.le_refl _) _)
  have H1 := Lib.hid (h1.alloc (.cells #[.pointer (some ⟨p, 0, none⟩)] LT))
  have H2 := Lib.hid (h2.kb hk7)
  have HD := Lib.hid (hk7 _ _ _ (by decide) (by decide) (hk6 _ _ _ (by decide) (by decide) H5D.out))
  have HW := Lib.hid (hk7 _ _ _ (by decide) (by decide) (hk6 _ _ _ (by decide) (by decide) H5P.out))
  have HWW := Lib.hid ((H5W.out.kb hk6).kb hk7)
  have HBB := Lib.hid (belowA (HB5.out.trans (h4.mono HB5.out.size)) (.cells #[.pointer (some ⟨p, 0, none⟩)] LT))
  clear h1 h2 h3 h4 hk6 hk7
  go_wp2
  go_ret
  exact ⟨_, p, _, _, v, _, ⟨rfl, HL.out, H1.out, H2.out, HD.out, HW.out, HWW.out, hge, HBB.out⟩⟩
end Go.Proofs.YtlhlehdajkoogaaGreatDoor
/- init: what follows on an answer: of a fork, of a wait. -/
namespace Go.Proofs.YtlhlehdajkoogaaGreatDoor
open Go.RowKit
open LGI (Md keepsM gone)

/-- Where an init stands behind an answer. -/
def Kq (F : Nat → Prop) (p : Nat) (m : Ma) (g : List Int) (md : Md) (w : World) (e : Ending) (w' : World) : Prop :=
  e = .returned (.tuple #[]) ∧ ∃ v', Kp F p { m with gettys := v' } w' md ∧ Own F w' v' g ∧ Mo p w w'
theorem Kp.ma {F : Nat → Prop} {p : Nat} {m : Ma} {w : World} {md : Md} (h : Kp F p m w md) : ∃ m', M w p m' := by
  cases md with
  | wait g => exact ⟨_, h⟩
  | fork g t => obtain ⟨b, _, _, h⟩ := h; exact ⟨_, h⟩
set_option maxRecDepth 100000 in
set_option maxHeartbeats 4000000 in
theorem forked_any {F : Nat → Prop} {w : World} (hF : ∀ k, w.heap.size ≤ k → F k) {p cb : Nat} {m : Ma} (h : M w p m) {g : List Int} (ho : Own F w m.gettys g) {t : Nat} (hcb : w.heap[cb]? = some (.cells #[.int .i64 (t : Int)] 3 (0, 0))) (ht : t < g.length) (hg : g.length < 100) (r : An) (he : r.err = 0) (hn : 0 < r.n) :
    Calls Tryz.prog 111 #[.pointer (some ⟨p, 0, none⟩), .agg r.cells, .pointer (some ⟨cb, 0, none⟩)] w (Kq F p m (g.set t r.n) (keepsM (g.set t r.n) (t + 1)) w) := by
  obtain ⟨C, hC⟩ : ∃ C, r.cells = C := ⟨_, rfl⟩
  have h0 : C[0]? = some (.int .i64 0) := by rw [← hC, ← he]; rfl
  have h1 : C[1]? = some (.int .i64 r.n) := by rw [← hC]; rfl
  rw [hC]
  have ha := alloc_heap w (.cells C 35)
  have x0 : (w.alloc (.cells C 35)).cell? ⟨w.heap.size, 0, none⟩ = some (.int .i64 0) := (cell_of ha 0).trans h0
  have x1 : (w.alloc (.cells C 35)).cell? ⟨w.heap.size, 1, none⟩ = some (.int .i64 r.n) := (cell_of ha 1).trans h1
  have hM := h.alloc (.cells C 35)
  have hmo := (Mo.refl p w).alloc (.cells C 35)
  have hO := ho.mo h hmo
  have hB := (alloc_heap_old w (.cells C 35) (lt_of_heap hcb)).trans hcb
  have y0 : (w.alloc (.cells C 35)).cell? ⟨cb, 0, none⟩ = some (.int .i64 (t : Int)) := cell_of hB 0
  have hle : (decide (r.n ≤ 0)) = false := by simp; omega
  have hle' : ¬ r.n ≤ 0 := by omega
  have HM := Lib.hid hM
  have HMO := Lib.hid hmo
  have HO := Lib.hid hO
  have HB := Lib.hid hB
  have HNE := Lib.hid (hM.ne hB)
  have hwr : wrap64 ((t : Int) + 1) = ((t + 1 : Nat) : Int) := by unfold wrap64; omega
  clear h ho hcb hC h0 h1 ha hM hmo hO hB he
  go_enter Tryz.func111, Tryz.ntmps111
  go_wp2_with fail
  refine (gets_any (fun k hk => hF k (Nat.le_trans HMO.out.size hk)) HM.out HO.out t ht hg r.n).mono ?_
  rintro e w2 ⟨rfl, v', h1, h2, h3⟩
  have hB2 := (h3.block cb (lt_of_heap HB.out) HNE.out).trans HB.out
  have y2 : w2.cell? ⟨cb, 0, none⟩ = some (.int .i64 (t : Int)) := cell_of hB2 0
  have HM2 := Lib.hid h1
  have HO2 := Lib.hid h2
  have HMO2 := Lib.hid (HMO.out.trans h3)
  clear h1 h2 h3 hB2 HM HO HMO HB x0 x1 y0
  go_wp2_with fail
  refine (keeps_any (by rw [List.length_set]; exact hg) _ (t + 1) (fun k hk => hF k (Nat.le_trans HMO2.out.size hk)) rfl (by rw [List.length_set]; omega) HM2.out HO2.out).mono ?_
  rintro e w3 ⟨rfl, h1, h2⟩
  have H1 := Lib.hid h1
  have H2 := Lib.hid (HMO2.out.trans h2)
  have H3 := Lib.hid (HO2.out.mo HM2.out h2)
  clear h1 h2 HM2 HMO2
  go_wp2
  exact bodyPost_end (results_none rfl _ _ _) rfl ⟨rfl, v', H1.out, H3.out, H2.out⟩
set_option maxRecDepth 100000 in
set_option maxHeartbeats 4000000 in
theorem waited_any {F : Nat → Prop} {w : World} (hF : ∀ k, w.heap.size ≤ k → F k) {p : Nat} {m : Ma} (h : M w p m) {gl : List Int} (ho : Own F w m.gettys gl) (hg : gl.length < 100) (r : An) (he : r.err = 0) :
    Calls Tryz.prog 154 #[.pointer (some ⟨p, 0, none⟩), .agg r.cells] w (Kq F p m (gone gl r.n) (keepsM (gone gl r.n) 0) w) := by
  obtain ⟨C, hC⟩ : ∃ C, r.cells = C := ⟨_, rfl⟩
  have h0 : C[0]? = some (.int .i64 0) := by rw [← hC, ← he]; rfl
  have h1 : C[1]? = some (.int .i64 r.n) := by rw [← hC]; rfl
  rw [hC]
  obtain ⟨n, hn⟩ : ∃ n, r.n = n := ⟨_, rfl⟩
  rw [hn] at h1 ⊢
  have ha := alloc_heap w (.cells C 35)
  have hM := h.alloc (.cells C 35)
  have hmo := (Mo.refl p w).alloc (.cells C 35)
  have hO := ho.mo h hmo
  obtain ⟨w1, hw1⟩ : ∃ w1, w.alloc (.cells C 35) = w1 := ⟨_, rfl⟩
  rw [hw1] at ha hM hmo hO
  have hap : w.heap.size ≠ p := by have := h.lt; omega
  obtain ⟨b, cap, cur, _, hv, hb, hc⟩ := id hO
  have hbp := hM.ne hb
  have x0 : w1.cell? ⟨w.heap.size, 0, none⟩ = some (.int .i64 0) := (cell_of ha 0).trans h0
  have k1 : w1.cell? ⟨p, 1, none⟩ = some (.slice (some ⟨b, 0, none⟩) gl.length cap) := by rw [hM.cell 1, ← hv]; rfl
  have HA : Hid (∀ W, Mo p w1 W → W.cell? ⟨w.heap.size, 1, none⟩ = some (.int .i64 n)) := Lib.hid fun W hW => (cell_of ((hW.block _ (lt_of_heap ha) hap).trans ha) 1).trans h1
  have HC : Hid (∀ W, Mo p w1 W → ∀ i (hi : i < gl.length), W.cell? ⟨b, i, none⟩ = some (.int .i64 gl[i])) := Lib.hid fun W hW i hi => by
    rw [cell_of ((hW.block _ (lt_of_heap hb) hbp).trans hb) i, hc i hi, List.getD_eq_getElem?_getD, List.getElem?_eq_getElem hi]; rfl
  have H0 : Hid (M w1 p { m with gettys := m.gettys } ∧ Own F w1 m.gettys (gone (gl.take 0) n ++ gl.drop 0) ∧ Mo p w1 w1) := Lib.hid ⟨hM, by rw [List.take_zero, List.drop_zero]; exact hO, Mo.refl _ _⟩
  have HMO := Lib.hid hmo
  obtain ⟨L, hL⟩ : ∃ L, gl.length = L := ⟨_, rfl⟩
  have HL := Lib.hid hL
  rw [hL] at hg k1
  clear h ho hC h0 h1 ha hM hmo hO hv hb hc he hn hbp hap hL
  go_enter Tryz.func154, Tryz.ntmps154
  go_wp2_with fail

  go_loopg [19] L (fun g iv wr => ∃ (i : Nat) (v : Value), iv = .int .i64 (i : Int) ∧ i + g = L ∧ Hid (M wr p { m with gettys := v } ∧ Own F wr v (gone (gl.take i) n ++ gl.drop i) ∧ Mo p w1 wr))
  case atStart => exact ⟨0, _, rfl, by omega, H0⟩
  case round =>
    clear H0 x0 k1
    obtain ⟨i, v, rfl, hig, HR⟩ := hrel
    have HX := Lib.hid (HA.out wr HR.out.2.2)
    by_cases hil : i < L
    · obtain ⟨og, rfl⟩ : ∃ og, gk = og + 1 := ⟨gk - 1, by omega⟩
      have hil2 : (i : Int) < L := by omega
      have hlt : i < gl.length := by rw [HL.out]; exact hil
      have y0 := HC.out wr HR.out.2.2 i hlt
      have y1 := HX.out
      have hlen : (gone (gl.take i) n ++ gl.drop i).length = L := by rw [List.length_append, LGI.gone_len, List.length_take, List.length_drop]; have := HL.out; omega
      have hst := LGI.gone_step hlt n
      obtain ⟨z, hz⟩ : ∃ z, gl[i] = z := ⟨_, rfl⟩
      rw [hz] at y0 hst
      have HS := Lib.hid hst
      clear hz hst hlt
      by_cases hzn : z = n
      · subst hzn
        have HG := Lib.hid (gets_any (fun k hk => hF k (Nat.le_trans (HMO.out.trans HR.out.2.2).size hk)) HR.out.1 HR.out.2.1 i (by rw [hlen]; exact hil) (by rw [hlen]; exact hg) 0)
        go_wp2_with fail
        refine HG.out.mono ?_
        rintro e w2 ⟨rfl, v', h1, h2, h3⟩
        have HN : Hid (M w2 p { m with gettys := v' } ∧ Own F w2 v' (gone (gl.take (i + 1)) z ++ gl.drop (i + 1)) ∧ Mo p w1 w2) := Lib.hid ⟨h1, by rw [← HS.out.1 (by first | rfl | trivial)]; exact h2, HR.out.2.2.trans h3⟩
        clear h1 h2 h3 HG
        go_wp2
        go_roundg og
        case measure => omega
        case rel => exact ⟨i + 1, _, by go_num, by omega, HN⟩
      · have hzb : (z == n) = false := by simpa using hzn
        have HN : Hid (M wr p { m with gettys := v } ∧ Own F wr v (gone (gl.take (i + 1)) n ++ gl.drop (i + 1)) ∧ Mo p w1 wr) := Lib.hid ⟨HR.out.1, by rw [← HS.out.2 hzn]; exact HR.out.2.1, HR.out.2.2⟩
        go_wp2
        go_roundg og
        case measure => omega
        case rel => exact ⟨i + 1, _, by go_num, by omega, HN⟩
    · have hil2 : (L : Int) ≤ i := by omega
      obtain rfl : i = L := by omega
      have HO : Hid (Own F wr v (gone gl n)) := Lib.hid (by
        have := HR.out.2.1
        rw [← HL.out, List.take_length, List.drop_length, List.append_nil] at this
        exact this)
      go_wp2_with fail
      refine (keeps_any (by rw [LGI.gone_len, HL.out]; exact hg) _ 0 (fun k hk => hF k (Nat.le_trans (HMO.out.trans HR.out.2.2).size hk)) rfl (Nat.zero_le _) HR.out.1 HO.out).mono ?_
      rintro e w3 ⟨rfl, h1, h2⟩
      have H1 := Lib.hid h1
      have H2 := Lib.hid ((HMO.out.trans HR.out.2.2).trans h2)
      have H3 := Lib.hid (HO.out.mo HR.out.1 h2)
      clear h1 h2
      go_wp2
      exact bodyPost_end (results_none rfl _ _ _) rfl ⟨rfl, v, H1.out, H3.out, H2.out⟩
end Go.Proofs.YtlhlehdajkoogaaGreatDoor
/- digit; the beginning of init. -/
namespace Go.Proofs.YtlhlehdajkoogaaGreatDoor
open Go.RowKit

theorem bytes_below (w : World) (t : TypeId) (s : ByteArray) : Below w.heap.size w (Lib.bytesWorld w t s) := by
  exact ⟨rfl, rfl, rfl, by rw [Lib.bytesWorld_size]; omega, fun j hj => Lib.bytesWorld_at_old w t s j hj⟩
set_option maxRecDepth 100000 in
set_option maxHeartbeats 4000000 in
theorem digit_any {w : World} {v : Value} {s : ByteArray} (h : Words w v s) (hs : s.size = 1) (u : Nat) (hu : u < 256) (hp : Lib.parseUintB 8 s.data.toList = .ok u) :
    Calls Tryz.prog 70 #[v] w fun e w' => e = .returned (.int .i64 (u : Int)) ∧ Below w.heap.size w w' := by
  obtain ⟨b, cap, cur, rfl, h1, h2, _⟩ := h
  have x0 : w.cell? ⟨b, 0, none⟩ = some (.string s) := (cell_of h1 0).trans h2
  have HC := Lib.hid (Tryz.strconv_ParseUint_10_at8_ok s (by omega) u hp w)
  have hsz : (s.size : Int) = 1 := by omega
  have hw64 : wrap64 (u : Int) = u := by unfold wrap64; omega
  clear h1 h2 hp
  go_enter Tryz.func70, Tryz.ntmps70
  go_wp2_with fail
  refine HC.out.mono ?_
  rintro e w1 ⟨rfl, hw⟩
  have HB : Hid (Below w.heap.size w w1) := Lib.hid (by rcases hw with rfl | rfl; exact Below.refl _ _; exact bytes_below _ _ _)
  clear hw HC x0
  go_wp2
  go_ret
  exact ⟨rfl, HB.out⟩
theorem made_list (u : Nat) : (madeCells (Value.int .i64 0).cells (u * 1)).toList = (List.replicate u 0).map (Value.int .i64) := by
  refine List.ext_getElem (by simp [size_madeCells]) fun i h1 h2 => ?_
  simp [madeCells, Value.cells, Nat.mod_one]
theorem made_own {w : World} {B u : Nat} {b : Nat} (h : w.ownsRow B 3 1 (.slice (some ⟨b, 0, none⟩) u u) u (madeCells (Value.int .i64 0).cells (u * 1)).toList) {F : Nat → Prop} (hF : ∀ k, B ≤ k → F k) : Own F w (.slice (some ⟨b, 0, none⟩) u u) (List.replicate u 0) := by
  rw [made_list] at h
  exact own_row h (by simp) (by simp) hF
theorem info_int : (Tryz.prog.info? 3).map (fun i => (i.zero, i.size, i.bytes)) = some (some (.int .i64 0), 1, 8) := by kernel_rfl
set_option maxRecDepth 100000 in
set_option maxHeartbeats 4000000 in
theorem initial_any {F : Nat → Prop} {w : World} (hF : ∀ k, w.heap.size ≤ k → F k) {p : Nat} {m : Ma} (h : M w p m) {v : Value} {s : ByteArray} (hw : Words w v s) (hs : s.size = 1) (u : Nat) (hu : u < 100) (hp : Lib.parseUintB 8 s.data.toList = .ok u) :
    Calls Tryz.prog 44 #[.pointer (some ⟨p, 0, none⟩), v] w (Kq F p m (List.replicate u 0) (LGI.keepsM (List.replicate u 0) 0) w) := by
  have HD := Lib.hid (digit_any hw hs u (by omega) hp)
  have HH := Lib.hid h
  obtain ⟨i0, hi, hz0, hz1, hz2⟩ := info_parts info_int
  clear h hw hp hs
  go_enter Tryz.func44, Tryz.ntmps44
  go_wp2_with fail
  refine HD.out.mono ?_
  rintro e w1 ⟨rfl, hb⟩
  have HB := Lib.hid hb
  clear hb
  go_wp2_with (refine wpList_make_full _ rfl _ _ 58 rfl w1.heap.size 3 i0 (.int .i64 0) 1 Tryz.underlying58 hi hz0 hz1 .i64 .i64 (u : Int) (u : Int) u rfl rfl rfl rfl (by rw [hz2]; omega) (by unfold maxLen; omega) (Nat.le_refl _) ?_; intro w2 hown2 hgrow2; have hb2 := HB.out.trans ((below_grown (Below.refl _ _) (Nat.le_refl _) hgrow2 (fun k hk => by cases hk)).mono HB.out.size); have hM2 := HH.out.below hb2; have k1 := hM2.cell 1; rw [show m.cells[1]? = some m.gettys from rfl] at k1; have f1 := frozen_of hM2 1; have HO := Lib.hid (made_own hown2 (fun k hk => hF k (Nat.le_trans HB.out.size hk))); have HB2 := Lib.hid hb2; have HM2 := Lib.hid hM2; clear hown2 hgrow2 hb2 hM2)
  obtain ⟨v1, hv1⟩ : ∃ v1, Value.slice (some ⟨w1.heap.size, 0, none⟩) u u = v1 := ⟨_, rfl⟩
  rw [hv1] at HO ⊢
  have hM3 := HM2.out.set 1 v1 { m with gettys := v1 } rfl
  have hmo3 := ((Mo.refl p w).below HB2.out).set (i := 1) v1
  have hO3 : Own F (w2.setCell ⟨p, 1, none⟩ v1) v1 (List.replicate u 0) := HO.out.mo HM2.out ((Mo.refl p w2).set _)
  refine (keeps_any (g := List.replicate u 0) (by rw [List.length_replicate]; exact hu) _ 0 (fun k hk => hF k (Nat.le_trans hmo3.size hk)) rfl (Nat.zero_le _) hM3 hO3).mono ?_
  rintro e w3 ⟨rfl, h1, h2⟩
  have H1 := Lib.hid h1
  have H2 := Lib.hid (hmo3.trans h2)
  have H3 := Lib.hid (hO3.mo hM3 h2)
  clear h1 h2 hM3 hmo3 hO3
  go_wp2
  exact bodyPost_end (results_none rfl _ _ _) rfl ⟨rfl, v1, H1.out, H3.out, H2.out⟩
end Go.Proofs.YtlhlehdajkoogaaGreatDoor
/- init, told: its first call and each other one. -/
namespace Go.Proofs.YtlhlehdajkoogaaGreatDoor
open Go.RowKit
open LGI (Md keepsM gone)

theorem Own.kb {F : Nat → Prop} {w w' : World} {v : Value} {g : List Int} (h : Own F w v g) (k : Kb w w') : Own F w' v g := by
  obtain ⟨b, cap, cur, hF, rfl, h1, h2⟩ := h
  exact ⟨b, cap, cur, hF, rfl, k _ _ _ (by decide) (by decide) h1, h2⟩
/-- An init that told a call. -/
structure IS (F : Nat → Prop) (md : Md) (m : Ma) (w : World) : Prop where
  own : Own F w m.gettys md.row
  over : m.over = false
  th : match md with
    | .wait _ => m.c = { op := 21 } ∧ m.th = .func (.func 154) #[] #[]
    | .fork g t => m.c = { op := 18 } ∧ t < g.length ∧ ∃ b, F b ∧ m.th = .func (.func 111) #[] #[.pointer (some ⟨b, 0, none⟩)] ∧ w.heap[b]? = some (.cells #[.int .i64 (t : Int)] 3 (0, 0))
theorem IS.kb {F : Nat → Prop} {md : Md} {m : Ma} {w w' : World} (h : IS F md m w) (k : Kb w w') : IS F md m w' := by
  refine ⟨h.own.kb k, h.over, ?_⟩
  have := h.th
  cases md with
  | wait g => exact this
  | fork g t =>
    obtain ⟨h1, h2, b, h0, h3, h4⟩ := this
    exact ⟨h1, h2, b, h0, h3, k _ _ _ (by decide) (by decide) h4⟩
/-- What a call of what follows ends in. -/
def ThP (p : Nat) (w : World) (R : Ma → World → Prop) (e : Ending) (w' : World) : Prop := e = .returned (.tuple #[]) ∧ ∃ m', M w' p m' ∧ m'.told ∧ Mo p w w' ∧ R m' w'
/-- What a program holds beside its machine. -/
def Ma.st (m : Ma) : ByteArray × Value × Bool × Int := (m.prog, m.gettys, m.writes, m.file)
/-- The program holds what it held. -/
abbrev Kst (m : Ma) (R : Ma → World → Prop) : Ma → World → Prop := fun m' w' => m'.st = m.st ∧ R m' w'
theorem ThP.mono {p : Nat} {w : World} {R R2 : Ma → World → Prop} {e : Ending} {w' : World} (h : ThP p w R e w') (k : ∀ m' w', R m' w' → R2 m' w') : ThP p w R2 e w' := by
  obtain ⟨h1, m', h2, h3, h4, h5⟩ := h
  exact ⟨h1, m', h2, h3, h4, k _ _ h5⟩
theorem kq_told {F : Nat → Prop} {p : Nat} {m : Ma} {g : List Int} {t : Nat} {w w' : World} {e : Ending} (h : Kq F p m g (keepsM g t) w e w') (ho : m.over = false) : ThP p w (IS F (keepsM g t)) e w' := by
  obtain ⟨he, v', h1, h2, h3⟩ := h
  have hrow := LGI.keepsM_row g t
  have hin := LGI.keepsM_in g t
  refine ⟨he, ?_⟩
  generalize keepsM g t = md at *
  cases md with
  | wait g' =>
    obtain rfl : g' = g := hrow
    exact ⟨_, h1, ⟨⟨rfl, rfl⟩, .inl ⟨_, _, _, rfl, ho⟩⟩, h3, h2, ho, rfl, rfl⟩
  | fork g' t' =>
    obtain rfl : g' = g := hrow
    obtain ⟨b, h0, h4, h5⟩ := h1
    exact ⟨_, h5, ⟨⟨rfl, rfl⟩, .inl ⟨_, _, _, rfl, ho⟩⟩, h3, h2, ho, rfl, hin, b, h0, rfl, h4⟩
/-- The next place. -/
def stepM : Md → Int → Md
  | .fork g t, n => keepsM (g.set t n) (t + 1)
  | .wait g, n => keepsM (gone g n) 0
theorem enter_of {k : FuncId} {fn : Func} (h : Tryz.prog.funcs[k]? = some fn) (h1 : (fn.name == "runtime.NumGoroutine") = false) (hb : fn.body.isSome = true) (args : Array Value) (w : World) : (callFunc k args).run Tryz.prog w = .ok (.enter k args) w := by
  have h1 : fn.name ≠ "runtime.NumGoroutine" := by simpa using h1
  cases hb2 : fn.body with
  | none => rw [hb2] at hb; cases hb
  | some c => simp [callFunc, go_sem, h, h1, hb2]
theorem en_waits (args : Array Value) (w : World) : (callFunc 154 args).run Tryz.prog w = .ok (.enter 154 args) w := enter_of Tryz.func154 (by kernel_rfl) rfl args w
theorem en_keeps (args : Array Value) (w : World) : (callFunc 111 args).run Tryz.prog w = .ok (.enter 111 args) w := enter_of Tryz.func111 (by kernel_rfl) rfl args w
theorem en_new (args : Array Value) (w : World) : (callFunc 27 args).run Tryz.prog w = .ok (.enter 27 args) w := enter_of Tryz.func27 (by kernel_rfl) rfl args w
theorem en_initial (args : Array Value) (w : World) : (callFunc 44 args).run Tryz.prog w = .ok (.enter 44 args) w := enter_of Tryz.func44 (by kernel_rfl) rfl args w
theorem M.self {w : World} {p : Nat} {m : Ma} (h : M w p m) : M w p { m with th := m.th } := h
/-- init goes on. -/
theorem inext_any {F : Nat → Prop} {w : World} (hF : ∀ k, w.heap.size ≤ k → F k) {l p : Nat} {m : Ma} {md : Md} (hl : L w l p) (h : M w p m) (hs : IS F md m w) (hg : md.row.length < 100) (r : An) (he : r.err = 0) (hn : 0 < r.n) :
    Calls Tryz.prog 14 #[.pointer (some ⟨l, 0, none⟩), .agg r.cells] w (NextP p w (IS F (stepM md r.n))) := by
  refine lnext_any hl h r (fun m' w1 w2 k hh => hh.kb k) fun w1 h1 k1 s1 => ?_
  have hs1 := hs.kb k1
  have ho := hs1.own
  have ht := hs1.th
  cases md with
  | wait g =>
    refine then_any h1 hs1.over ht.2 r (fun m' w1 w2 k hh => hh.kb k) en_waits fun w2 h2 k2 s2 => ?_
    exact (waited_any (fun k hk => hF k (Nat.le_trans (Nat.le_trans s1.size s2.size) hk)) h2 (ho.kb k2) hg r he).mono fun e w' hh => kq_told hh hs1.over
  | fork g t =>
    obtain ⟨_, hlt, b, _, h3, h4⟩ := ht
    refine then_any h1 hs1.over h3 r (fun m' w1 w2 k hh => hh.kb k) en_keeps fun w2 h2 k2 s2 => ?_
    exact (forked_any (fun k hk => hF k (Nat.le_trans (Nat.le_trans s1.size s2.size) hk)) h2 (ho.kb k2) (k2 _ _ _ (by decide) (by decide) h4) hlt hg r he hn).mono fun e w' hh => kq_told hh hs1.over
set_option maxRecDepth 100000 in
set_option maxHeartbeats 4000000 in
theorem newd_any {w : World} {p pd pw : Nat} {d : FuncId} {wv : Value} (hd : w.heap[pd]? = some (.cells #[.func (.func d) #[] #[]] FT (0, 0))) (hw : w.heap[pw]? = some (.cells #[wv] 22 (0, 0)))
    (hen : ∀ (args : Array Value) (w : World), (callFunc d args).run Tryz.prog w = .ok (.enter d args) w) {R : Ma → World → Prop} (hk : Calls Tryz.prog d #[.pointer (some ⟨p, 0, none⟩), wv] w (ThP p w R)) :
    Calls Tryz.prog 27 #[.pointer (some ⟨p, 0, none⟩), .pointer (some ⟨pd, 0, none⟩), .pointer (some ⟨pw, 0, none⟩)] w (ThP p w R) := by
  have x0 : w.cell? ⟨pd, 0, none⟩ = some (.func (.func d) #[] #[]) := cell_of hd 0
  have x1 : w.cell? ⟨pw, 0, none⟩ = some wv := cell_of hw 0
  have HK := Lib.hid hk
  clear hd hw hk
  go_enter Tryz.func27, Tryz.ntmps27
  go_wp2_with fail
  refine HK.out.mono ?_
  rintro e w1 ⟨rfl, hh⟩
  have H := Lib.hid hh
  clear hh HK
  go_wp2
  exact bodyPost_end (results_none rfl _ _ _) rfl ⟨rfl, H.out⟩
/-- init begins. -/
theorem ifirst_any {F : Nat → Prop} {w0 w : World} (hF : ∀ k, w.heap.size ≤ k → F k) {prog s : ByteArray} {e0 : Ending} {l p pd pw : Nat} {v wv : Value} (h : Nw w0 w prog 44 s e0 l p pd pw v wv) (hs : s.size = 1) (u : Nat) (hu : u < 100) (hp : Lib.parseUintB 8 s.data.toList = .ok u) (r : An) :
    Calls Tryz.prog 14 #[.pointer (some ⟨l, 0, none⟩), .agg r.cells] w (NextP p w (IS F (keepsM (List.replicate u 0) 0))) := by
  refine lnext_any h.l h.m r (fun m' w1 w2 k hh => hh.kb k) fun w1 h1 k1 s1 => ?_
  obtain ⟨td, cap, cur, g1, g2, g3, g4⟩ := h.one
  refine start_any h1 rfl rfl g1 (k1 _ _ _ (by decide) (by decide) g2) g3 g4 r (fun m' w1 w2 k hh => hh.kb k) en_new fun w2 h2 k2 s2 => ?_
  have k3 := k1.trans k2
  refine newd_any (k3 _ _ _ (by decide) (by decide) h.pd) (k3 _ _ _ (by decide) (by decide) h.pw) en_initial ?_
  exact (initial_any (fun k hk => hF k (Nat.le_trans (Nat.le_trans s1.size s2.size) hk)) h2 (h.words.kb k3) hs u hu hp).mono fun e w' hh => kq_told hh rfl
end Go.Proofs.YtlhlehdajkoogaaGreatDoor
/- Say; getty, as far as the statements' small case goes. -/
namespace Go.Proofs.YtlhlehdajkoogaaGreatDoor
open Go.RowKit

abbrev KT : TypeId := 70
/-- A machine that says a text. -/
structure SayS (fd : Int) (text : ByteArray) (f : Value) (m : Ma) (w : World) : Prop where
  over : m.over = false
  c : m.c = { op := 5, fd := fd, text := text }
  th : ∃ b1 b2 b3, m.th = .func (.func 159) #[] #[.pointer (some ⟨b1, 0, none⟩), .pointer (some ⟨b2, 0, none⟩), .pointer (some ⟨b3, 0, none⟩)] ∧ w.heap[b1]? = some (.cells #[.string text] 9 (0, 0)) ∧ w.heap[b2]? = some (.cells #[f] KT (0, 0)) ∧ w.heap[b3]? = some (.cells #[.int .i64 fd] 3 (0, 0))
set_option maxRecDepth 100000 in
set_option maxHeartbeats 4000000 in
theorem say_st {w : World} {p : Nat} {m : Ma} (h : M w p m) (hov : m.over = false) (fd : Int) (text : ByteArray) (hne : text.toList.isEmpty = false) (fn : Fn) (fi ca : Array Value) :
    Calls Tryz.prog 116 #[.pointer (some ⟨p, 0, none⟩), .int .i64 fd, .string text, .func fn fi ca] w (ThP p w (Kst m (SayS fd text (.func fn fi ca)))) := by
  have hmf : ∀ (fn : Fn) (first cap : Array Value) (w : World), (Instr.makeFunc fn first cap).run Tryz.prog w = .ok (.func fn first cap) w := fun _ _ _ _ => rfl
  have HH := Lib.hid h
  clear h
  go_enter Tryz.func116, Tryz.ntmps116
  go_wp2_with fail
  have a1 := alloc_heap w (.cells #[.int .i64 fd] 3)
  have a2 := (alloc_heap_old (w.alloc (.cells #[.int .i64 fd] 3)) (.cells #[.string text] 9) (lt_of_heap a1)).trans a1
  have b1 := alloc_heap (w.alloc (.cells #[.int .i64 fd] 3)) (.cells #[.string text] 9)
  rw [alloc_size] at b1
  have c1 := alloc_heap ((w.alloc (.cells #[.int .i64 fd] 3)).alloc (.cells #[.string text] 9)) (.cells #[.func fn fi ca] KT)
  rw [alloc_size, alloc_size] at c1
  have a3 := (alloc_heap_old ((w.alloc (.cells #[.int .i64 fd] 3)).alloc (.cells #[.string text] 9)) (.cells #[.func fn fi ca] KT) (lt_of_heap a2)).trans a2
  have b2 := (alloc_heap_old ((w.alloc (.cells #[.int .i64 fd] 3)).alloc (.cells #[.string text] 9)) (.cells #[.func fn fi ca] KT) (lt_of_heap b1)).trans b1
  have hM := ((HH.out.alloc (.cells #[.int .i64 fd] 3)).alloc (.cells #[.string text] 9)).alloc (.cells #[.func fn fi ca] KT)
  have hmo := (((Mo.refl p w).alloc (.cells #[.int .i64 fd] 3)).alloc (.cells #[.string text] 9)).alloc (.cells #[.func fn fi ca] KT)
  have HC := Lib.hid (sys_any hM { op := 5, fd := fd, text := text } (.func 159) #[] #[.pointer (some ⟨w.heap.size + 1, 0, none⟩), .pointer (some ⟨w.heap.size + 1 + 1, 0, none⟩), .pointer (some ⟨w.heap.size, 0, none⟩)] rfl rfl)
  have HA := Lib.hid a3
  have HB := Lib.hid b2
  have HF := Lib.hid c1
  have HM := Lib.hid hM
  have HMO := Lib.hid hmo
  clear a1 a2 a3 b1 b2 c1 hM hmo
  refine HC.out.mono ?_
  rintro e w1 ⟨rfl, h1, h2⟩
  have hk := Kb.mo HM.out h2
  have H1 := Lib.hid h1
  have H2 := Lib.hid (HMO.out.trans h2)
  have HS : Hid (SayS fd text (.func fn fi ca) { m with c := { op := 5, fd := fd, text := text }, th := .func (.func 159) #[] #[.pointer (some ⟨w.heap.size + 1, 0, none⟩), .pointer (some ⟨w.heap.size + 1 + 1, 0, none⟩), .pointer (some ⟨w.heap.size, 0, none⟩)] } w1) := Lib.hid ⟨hov, rfl, _, _, _, rfl, hk _ _ _ (by decide) (by decide) HB.out, hk _ _ _ (by decide) (by decide) HF.out, hk _ _ _ (by decide) (by decide) HA.out⟩
  clear h1 h2 hk
  go_wp2
  exact bodyPost_end (results_none rfl _ _ _) rfl ⟨rfl, _, H1.out, ⟨⟨rfl, rfl⟩, .inl ⟨_, _, _, rfl, hov⟩⟩, H2.out, rfl, HS.out⟩
theorem say_any {w : World} {p : Nat} {m : Ma} (h : M w p m) (hov : m.over = false) (fd : Int) (text : ByteArray) (hne : text.toList.isEmpty = false) (fn : Fn) (fi ca : Array Value) :
    Calls Tryz.prog 116 #[.pointer (some ⟨p, 0, none⟩), .int .i64 fd, .string text, .func fn fi ca] w (ThP p w (SayS fd text (.func fn fi ca))) := (say_st h hov fd text hne fn fi ca).mono fun _ _ h => h.mono fun _ _ k => k.2
set_option maxRecDepth 100000 in
set_option maxHeartbeats 4000000 in
theorem reads_any {w : World} :
    Calls Tryz.prog 118 #[] w fun e w' => e = .returned (.agg ({ op := 4, n := 257, line := true } : Ca).cells) ∧ Below w.heap.size w w' := by
  obtain ⟨c, hc⟩ : ∃ c : Ca, ({ op := 4, n := 257, line := true } : Ca) = c := ⟨_, rfl⟩
  rw [hc]
  have HI : Hid ((Tryz.prog.info? 39).map (·.size) = some c.cells.size) := Lib.hid rfl
  have H1 : Hid (c.cells.all (·.oneCell') = true) := Lib.hid (by rw [← hc]; exact Ca.one _ rfl rfl)
  have HE : Hid (.agg c.cells = Value.agg #[.int .i64 4, .string ⟨#[]⟩, .string ⟨#[]⟩, .string ⟨#[]⟩, .int .i64 0, .int .i64 0, .int .i64 257, .int .i64 0, .int .i64 0, .int .i64 0, .int .i64 0, .bool false, .bool false, .bool false, .bool false, .int .i64 0, .bool true, .bool false, .slice none 0 0, .slice none 0 0]) := Lib.hid (by rw [← hc]; rfl)
  have hA := alloc_heap w (.cells ({ op := 0 } : Ca).cells 39)
  have hT : (w.alloc (.cells ({ op := 0 } : Ca).cells 39)).there w.heap.size 0 c.cells.size := show (w.alloc (.cells ({ op := 0 } : Ca).cells 39)).there w.heap.size 0 (({ op := 0 } : Ca).cells.size) from there_of hA
  have hwr := heap_setCells c.cells.toList 0 _ _ hA
  have hput : putA ({ op := 0 } : Ca).cells 0 c.cells.toList = c.cells := putA_whole rfl
  rw [hput] at hwr
  have hsz : (((w.alloc (.cells ({ op := 0 } : Ca).cells 39)).setCells w.heap.size 0 c.cells.toList)).heap.size = w.heap.size + 1 := by rw [setCells_size, alloc_size]
  have hbel : Below w.heap.size w ((w.alloc (.cells ({ op := 0 } : Ca).cells 39)).setCells w.heap.size 0 c.cells.toList) := by
    have hb := belowA (Below.refl w.heap.size w) (.cells ({ op := 0 } : Ca).cells 39)
    exact ⟨(setCells_os _ _ _).1.trans hb.os, (setCells_os _ _ _).2.1.trans hb.tape, (setCells_os _ _ _).2.2.trans hb.output, by rw [setCells_size]; exact hb.size, fun k hk => (heap_setCells_other (by omega) _ _ _).trans (hb.block k hk)⟩
  obtain ⟨wA, hwA⟩ : ∃ wA, w.alloc (.cells ({ op := 0 } : Ca).cells 39) = wA := ⟨_, rfl⟩
  rw [hwA] at hT hwr hbel
  obtain ⟨C, hC⟩ : ∃ C, c.cells = C := ⟨_, rfl⟩
  rw [hC] at HI H1 HE hT hwr hbel ⊢
  obtain ⟨w4, hw4⟩ : ∃ w4, wA.setCells w.heap.size 0 C.toList = w4 := ⟨_, rfl⟩
  rw [hw4] at hwr hbel
  have HT := Lib.hid hT
  have HW := Lib.hid hwr
  have HB := Lib.hid hbel
  unfold Ca.cells at hwA
  clear hA hT hwr hbel hput hsz hC hc
  go_enter Tryz.func118, Tryz.ntmps118
  go_wp2_with (refine wpList_store_mid rfl 39 _ _ rfl w.heap.size 0 C rfl HE.out.symm HT.out HI.out H1.out ?_; rw [hw4]; clear hw4)
  exact bodyPost_ret (v := .agg C) (results_cell_row rfl _ w4 w.heap.size 39 C (0, 0) _ rfl HW.out Tryz.underlying39 rfl HI.out) rfl ⟨rfl, HB.out⟩
end Go.Proofs.YtlhlehdajkoogaaGreatDoor
/- getty's walk, as far as the statements' small case goes. -/
namespace Go.Proofs.YtlhlehdajkoogaaGreatDoor
open Go.RowKit

theorem ThP.sys {w w' : World} {p : Nat} {m : Ma} {c : Ca} {k : FuncId} {ca : Array Value} (h : M w' p { m with c := c, th := .func (.func k) #[] ca }) (ho : m.over = false) (h1 : c.args.oneCell' = true) (h2 : c.env.oneCell' = true) (hm : Mo p w w') {R : Ma → World → Prop} (hR : R { m with c := c, th := .func (.func k) #[] ca } w') : ThP p w R (.returned (.tuple #[])) w' :=
  ⟨rfl, _, h, ⟨⟨h1, h2⟩, .inl ⟨_, _, _, rfl, ho⟩⟩, hm, hR⟩
theorem ThP.end {w : World} {p : Nat} {R : Ma → World → Prop} {e : Ending} {w' : World} (h : ThP p w R e w') : e = .returned (.tuple #[]) := h.1
theorem ThP.pre {w w0 : World} {p : Nat} {R : Ma → World → Prop} {e : Ending} {w' : World} (h : ThP p w R e w') (k : Mo p w0 w) : ThP p w0 R e w' := by
  obtain ⟨h1, m', h2, h3, h4, h5⟩ := h
  exact ⟨h1, m', h2, h3, k.trans h4, h5⟩
/-- A machine that told a call, with what follows. -/
structure At (c : Ca) (k : FuncId) (m : Ma) (w : World) : Prop where
  over : m.over = false
  c : m.c = c
  th : m.th = .func (.func k) #[] #[]
set_option maxRecDepth 100000 in
set_option maxHeartbeats 4000000 in
theorem getty_any {w : World} {p : Nat} {m : Ma} (h : M w p m) (ho : m.over = false) {v : Value} {s : ByteArray} (hw : Words w v s) (hs : s.size = 1) (u : Nat) (hu : u < 100) (hp : Lib.parseUintB 8 s.data.toList = .ok u) :
    Calls Tryz.prog 45 #[.pointer (some ⟨p, 0, none⟩), v] w (ThP p w (At { op := 25, n := u } 73)) := by
  have HD := Lib.hid (digit_any hw hs u (by omega) hp)
  have HH := Lib.hid h
  have HO := Lib.hid ho
  clear h hw hp hs ho
  go_enter Tryz.func45, Tryz.ntmps45
  go_wp2_with fail
  refine HD.out.mono ?_
  rintro e w1 ⟨rfl, hb⟩
  have HM := Lib.hid (HH.out.below hb)
  have HMO := Lib.hid ((Mo.refl p w).below hb)
  clear hb HD HH
  go_wp2_with fail
  refine (sys_any HM.out { op := 25, n := u } _ _ _ rfl rfl).mono ?_
  rintro e w2 ⟨rfl, h1, h2⟩
  have H : Hid (ThP p w (At { op := 25, n := u } 73) (.returned (.tuple #[])) w2) := Lib.hid (ThP.sys h1 HO.out rfl rfl (HMO.out.trans h2) ⟨HO.out, rfl, rfl⟩)
  clear h1 h2
  go_wp2
  exact bodyPost_end (results_none rfl _ _ _) rfl H.out
theorem en_getty (args : Array Value) (w : World) : (callFunc 45 args).run Tryz.prog w = .ok (.enter 45 args) w := enter_of Tryz.func45 (by kernel_rfl) rfl args w
theorem en_getty1 (args : Array Value) (w : World) : (callFunc 73 args).run Tryz.prog w = .ok (.enter 73 args) w := enter_of Tryz.func73 (by kernel_rfl) rfl args w
theorem en_say (args : Array Value) (w : World) : (callFunc 159 args).run Tryz.prog w = .ok (.enter 159 args) w := enter_of Tryz.func159 (by kernel_rfl) rfl args w
theorem en_names1 (args : Array Value) (w : World) : (callFunc 117 args).run Tryz.prog w = .ok (.enter 117 args) w := enter_of Tryz.func117 (by kernel_rfl) rfl args w
theorem en_names11 (args : Array Value) (w : World) : (callFunc 119 args).run Tryz.prog w = .ok (.enter 119 args) w := enter_of Tryz.func119 (by kernel_rfl) rfl args w
def hello : ByteArray := ⟨#[108, 111, 103, 105, 110, 58, 32]⟩
set_option maxRecDepth 100000 in
set_option maxHeartbeats 4000000 in
theorem names_any {w : World} {p : Nat} {m : Ma} (h : M w p m) (ho : m.over = false) :
    Calls Tryz.prog 74 #[.pointer (some ⟨p, 0, none⟩)] w (ThP p w (SayS 1 hello (.func (.func 117) #[] #[]))) := by
  have HH := Lib.hid h
  have HO := Lib.hid ho
  clear h ho
  go_enter Tryz.func74, Tryz.ntmps74
  go_wp2_with fail
  refine (say_any HH.out HO.out 1 hello (by rw [ByteArray.toList_eq]; rfl) _ _ _).mono ?_
  intro e w1 h
  obtain rfl := h.end
  have H := Lib.hid h
  clear h
  go_wp2
  exact bodyPost_end (results_none rfl _ _ _) rfl H.out
set_option maxRecDepth 100000 in
set_option maxHeartbeats 4000000 in
theorem gettied_any {w : World} {p : Nat} {m : Ma} (h : M w p m) (ho : m.over = false) (r : An) (he : r.err = 0) :
    Calls Tryz.prog 73 #[.pointer (some ⟨p, 0, none⟩), .agg r.cells] w (ThP p w (SayS 1 hello (.func (.func 117) #[] #[]))) := by
  obtain ⟨C, hC⟩ : ∃ C, r.cells = C := ⟨_, rfl⟩
  have h0 : C[0]? = some (.int .i64 0) := by rw [← hC, ← he]; rfl
  rw [hC]
  have ha := alloc_heap w (.cells C 35)
  have x0 : (w.alloc (.cells C 35)).cell? ⟨w.heap.size, 0, none⟩ = some (.int .i64 0) := (cell_of ha 0).trans h0
  have HM := Lib.hid (h.alloc (.cells C 35))
  have HMO := Lib.hid ((Mo.refl p w).alloc (.cells C 35))
  have HO := Lib.hid ho
  clear h ho hC h0 ha he
  go_enter Tryz.func73, Tryz.ntmps73
  go_wp2_with fail
  refine (names_any HM.out HO.out).mono ?_
  intro e w1 h
  obtain rfl := h.end
  have H := Lib.hid (h.pre HMO.out)
  clear h
  go_wp2
  exact bodyPost_end (results_none rfl _ _ _) rfl H.out
set_option maxRecDepth 100000 in
set_option maxHeartbeats 4000000 in
theorem said_any {w : World} {p b1 b2 b3 : Nat} {text : ByteArray} {k : FuncId} {ca : Array Value} (h1 : w.heap[b1]? = some (.cells #[.string text] 9 (0, 0))) (h2 : w.heap[b2]? = some (.cells #[.func (.func k) #[] ca] KT (0, 0))) (r : An) (he : r.err = 0) (hn : 1 ≤ r.n) (hl : (text.size : Int) ≤ r.n)
    (hen : ∀ (args : Array Value) (w : World), (callFunc k args).run Tryz.prog w = .ok (.enter k args) w) {R : Ma → World → Prop} (hk : ∀ w1, Below w.heap.size w w1 → Calls Tryz.prog k (#[.pointer (some ⟨p, 0, none⟩)] ++ ca) w1 (ThP p w1 R)) :
    Calls Tryz.prog 159 #[.pointer (some ⟨p, 0, none⟩), .agg r.cells, .pointer (some ⟨b1, 0, none⟩), .pointer (some ⟨b2, 0, none⟩), .pointer (some ⟨b3, 0, none⟩)] w (ThP p w R) := by
  obtain ⟨C, hC⟩ : ∃ C, r.cells = C := ⟨_, rfl⟩
  have h0 : C[0]? = some (.int .i64 0) := by rw [← hC, ← he]; rfl
  have hN : C[1]? = some (.int .i64 r.n) := by rw [← hC]; rfl
  rw [hC]
  have ha := alloc_heap w (.cells C 35)
  have x0 : (w.alloc (.cells C 35)).cell? ⟨w.heap.size, 0, none⟩ = some (.int .i64 0) := (cell_of ha 0).trans h0
  have x1 : (w.alloc (.cells C 35)).cell? ⟨w.heap.size, 1, none⟩ = some (.int .i64 r.n) := (cell_of ha 1).trans hN
  have y1 : (w.alloc (.cells C 35)).cell? ⟨b1, 0, none⟩ = some (.string text) := cell_of ((alloc_heap_old _ _ (lt_of_heap h1)).trans h1) 0
  have y2 : (w.alloc (.cells C 35)).cell? ⟨b2, 0, none⟩ = some (.func (.func k) #[] ca) := cell_of ((alloc_heap_old _ _ (lt_of_heap h2)).trans h2) 0
  have HK := Lib.hid (hk _ ((Below.refl w.heap.size w).alloc (Nat.le_refl _) (.cells C 35)))
  have HMO := Lib.hid ((Mo.refl p w).alloc (.cells C 35))
  have g1 : ¬ r.n < 1 := by omega
  have g1b : decide (r.n < 1) = false := by simp; omega
  have g2 : (text.size : Int) ≤ r.n := hl
  have g2b : decide ((text.size : Int) ≤ r.n) = true := by simp; omega
  clear hC h0 hN ha he h1 h2 hk
  go_enter Tryz.func159, Tryz.ntmps159
  go_wp2_with fail
  refine HK.out.mono ?_
  intro e w1 h
  obtain rfl := h.end
  have H := Lib.hid (h.pre HMO.out)
  clear h
  go_wp2
  exact bodyPost_end (results_none rfl _ _ _) rfl H.out
set_option maxRecDepth 100000 in
set_option maxHeartbeats 4000000 in
theorem names1_any {w : World} {p : Nat} {m : Ma} (h : M w p m) (ho : m.over = false) :
    Calls Tryz.prog 117 #[.pointer (some ⟨p, 0, none⟩)] w (ThP p w (At { op := 4, n := 257, line := true } 119)) := by
  have HH := Lib.hid h
  have HO := Lib.hid ho
  clear h ho
  go_enter Tryz.func117, Tryz.ntmps117
  go_wp2_with fail
  refine reads_any.mono ?_
  rintro e w1 ⟨rfl, hb⟩
  have HM := Lib.hid (HH.out.below hb)
  have HMO := Lib.hid ((Mo.refl p w).below hb)
  clear hb HH
  go_wp2_with fail
  refine (sys_any HM.out { op := 4, n := 257, line := true } _ _ _ rfl rfl).mono ?_
  rintro e w2 ⟨rfl, h1, h2⟩
  have H : Hid (ThP p w (At { op := 4, n := 257, line := true } 119) (.returned (.tuple #[])) w2) := Lib.hid (ThP.sys h1 HO.out rfl rfl (HMO.out.trans h2) ⟨HO.out, rfl, rfl⟩)
  clear h1 h2
  go_wp2
  exact bodyPost_end (results_none rfl _ _ _) rfl H.out
end Go.Proofs.YtlhlehdajkoogaaGreatDoor
/- getty tells a name to login. -/
namespace Go.Proofs.YtlhlehdajkoogaaGreatDoor
open Go.RowKit

theorem bt_one (f : Value) : (#[f] : Array Value)[0]? = some f := rfl
set_option maxRecDepth 100000 in
set_option maxHeartbeats 4000000 in
theorem ignores_any {w : World} (fn : Fn) (fi ca : Array Value) :
    Calls Tryz.prog 113 #[.func fn fi ca] w fun e w' => e = .returned (.func (.func 157) #[] #[.pointer (some ⟨w.heap.size, 0, none⟩)]) ∧ w' = w.alloc (.cells #[.func fn fi ca] KT) := by
  have hmf : ∀ (fn : Fn) (first cap : Array Value) (w : World), (Instr.makeFunc fn first cap).run Tryz.prog w = .ok (.func fn first cap) w := fun _ _ _ _ => rfl
  go_enter Tryz.func113, Tryz.ntmps113
  go_wp2
  go_ret
  exact ⟨rfl, rfl⟩
/-- A machine that becomes login. -/
def Exec (name : ByteArray) (m : Ma) (w : World) : Prop := ∃ b, m.c = { op := 19, path := ⟨#[47, 98, 105, 110, 47, 108, 111, 103, 105, 110]⟩, args := .slice (some ⟨b, 0, none⟩) 2 2 } ∧ w.heap[b]? = some (.cells #[.string ⟨#[108, 111, 103, 105, 110]⟩, .string name] 9 (0, 0))
set_option maxRecDepth 100000 in
set_option maxHeartbeats 4000000 in
theorem named_any {w : World} {p : Nat} {m : Ma} (h : M w p m) (ho : m.over = false) (r : An) (he : r.err = 0) (hs : r.text.size ≤ 9223372036854775807) (ht : r.text.toList.isEmpty = false) (name : ByteArray) (hn : (⟨(Lib.trimSuffix r.text.data.toList [10]).toArray⟩ : ByteArray) = name) (hn0 : name.toList.isEmpty = false) :
    Calls Tryz.prog 119 #[.pointer (some ⟨p, 0, none⟩), .agg r.cells] w (ThP p w (Exec name)) := by
  obtain ⟨C, hC⟩ : ∃ C, r.cells = C := ⟨_, rfl⟩
  obtain ⟨text, hx⟩ : ∃ x, r.text = x := ⟨_, rfl⟩
  have h0 : C[0]? = some (.int .i64 0) := by rw [← hC, ← he]; rfl
  have h3 : C[3]? = some (.string text) := by rw [← hC, ← hx]; rfl
  rw [hC]
  rw [hx] at hs ht hn
  have ha := alloc_heap w (.cells C 35)
  obtain ⟨w1, hw1⟩ : ∃ w1, w.alloc (.cells C 35) = w1 := ⟨_, rfl⟩
  rw [hw1] at ha
  have x0 : w1.cell? ⟨w.heap.size, 0, none⟩ = some (.int .i64 0) := (cell_of ha 0).trans h0
  have x3 : w1.cell? ⟨w.heap.size, 3, none⟩ = some (.string text) := (cell_of ha 3).trans h3
  have HM := Lib.hid (show M w1 p m by rw [← hw1]; exact h.alloc _)
  have HMO := Lib.hid (show Mo p w w1 by rw [← hw1]; exact (Mo.refl p w).alloc _)
  have HO := Lib.hid ho
  have HT := Lib.hid (Tryz.strings_TrimSuffix text ⟨#[10]⟩ w1 hs)
  have HN : Hid ((⟨(Lib.trimSuffix text.data.toList (⟨#[10]⟩ : ByteArray).data.toList).toArray⟩ : ByteArray) = name) := Lib.hid hn
  clear h ho hC h0 h3 ha he hx hs hn
  go_enter Tryz.func119, Tryz.ntmps119
  go_wp2_with fail
  refine HT.out.mono ?_
  rintro e w2 ⟨rfl, rfl⟩
  rw [HN.out]
  have hb := alloc_heap w2 (.cells #[.string ⟨#[108, 111, 103, 105, 110]⟩, .string name] 9)
  have HB := Lib.hid hb
  clear hb HT HN
  go_wp2_with fail
  refine (ignores_any _ _ _).mono ?_
  rintro e w3 ⟨rfl, rfl⟩
  have hM3 := (HM.out.alloc (.cells #[.string ⟨#[108, 111, 103, 105, 110]⟩, .string name] 9)).alloc (.cells #[.func (.func 121) #[] #[]] KT)
  have hmo3 := (HMO.out.alloc (.cells #[.string ⟨#[108, 111, 103, 105, 110]⟩, .string name] 9)).alloc (.cells #[.func (.func 121) #[] #[]] KT)
  have hb3 := (alloc_heap_old (w2.alloc (.cells #[.string ⟨#[108, 111, 103, 105, 110]⟩, .string name] 9)) (.cells #[.func (.func 121) #[] #[]] KT) (lt_of_heap HB.out)).trans HB.out
  have HS := Lib.hid (sys_any hM3 { op := 19, path := ⟨#[47, 98, 105, 110, 47, 108, 111, 103, 105, 110]⟩, args := .slice (some ⟨w2.heap.size, 0, none⟩) 2 2 } (.func 157) #[] #[.pointer (some ⟨(w2.alloc (.cells #[.string ⟨#[108, 111, 103, 105, 110]⟩, .string name] 9)).heap.size, 0, none⟩)] rfl rfl)
  have HM3 := Lib.hid hM3
  have HMO3 := Lib.hid hmo3
  have HB3 := Lib.hid hb3
  clear hM3 hmo3 hb3 HM HMO HB
  rw [alloc_size] at HS ⊢
  go_wp2_with fail
  refine HS.out.mono ?_
  rintro e w4 ⟨rfl, h1, h2⟩
  have hk := Kb.mo HM3.out h2
  have H : Hid (ThP p w (Exec name) (.returned (.tuple #[])) w4) := Lib.hid (ThP.sys h1 HO.out rfl rfl (HMO3.out.trans h2) ⟨_, rfl, hk _ _ _ (by decide) (by decide) HB3.out⟩)
  clear h1 h2 hk
  go_wp2
  exact bodyPost_end (results_none rfl _ _ _) rfl H.out
end Go.Proofs.YtlhlehdajkoogaaGreatDoor
/- getty told; the statements' small case. -/
namespace Go.Proofs.YtlhlehdajkoogaaGreatDoor
open Go.RowKit

theorem SayS.kb {fd : Int} {text : ByteArray} {f : Value} {m : Ma} {w w' : World} (h : SayS fd text f m w) (k : Kb w w') : SayS fd text f m w' := by
  obtain ⟨b1, b2, b3, h1, h2, h3, h4⟩ := h.th
  exact ⟨h.over, h.c, b1, b2, b3, h1, k _ _ _ (by decide) (by decide) h2, k _ _ _ (by decide) (by decide) h3, k _ _ _ (by decide) (by decide) h4⟩
theorem Exec.kb {name : ByteArray} {m : Ma} {w w' : World} (h : Exec name m w) (k : Kb w w') : Exec name m w' := by
  obtain ⟨b, h1, h2⟩ := h
  exact ⟨b, h1, k _ _ _ (by decide) (by decide) h2⟩
theorem At.kb {c : Ca} {k : FuncId} {m : Ma} {w w' : World} (h : At c k m w) : At c k m w' := ⟨h.over, h.c, h.th⟩
theorem g1_any {w0 w : World} {prog s : ByteArray} {e0 : Ending} {l p pd pw : Nat} {v wv : Value} (h : Nw w0 w prog 45 s e0 l p pd pw v wv) (hs : s.size = 1) (u : Nat) (hu : u < 100) (hp : Lib.parseUintB 8 s.data.toList = .ok u) (r : An) :
    Calls Tryz.prog 14 #[.pointer (some ⟨l, 0, none⟩), .agg r.cells] w (NextP p w (At { op := 25, n := u } 73)) := by
  refine lnext_any h.l h.m r (fun m' w1 w2 k hh => hh.kb) fun w1 h1 k1 s1 => ?_
  obtain ⟨td, cap, cur, g1, g2, g3, g4⟩ := h.one
  refine start_any h1 rfl rfl g1 (k1 _ _ _ (by decide) (by decide) g2) g3 g4 r (fun m' w1 w2 k hh => hh.kb) en_new fun w2 h2 k2 s2 => ?_
  have k3 := k1.trans k2
  refine newd_any (k3 _ _ _ (by decide) (by decide) h.pd) (k3 _ _ _ (by decide) (by decide) h.pw) en_getty ?_
  exact getty_any h2 rfl (h.words.kb k3) hs u hu hp
theorem g2_any {w : World} {l p : Nat} {m : Ma} {c : Ca} (hl : L w l p) (h : M w p m) (hs : At c 73 m w) (r : An) (he : r.err = 0) :
    Calls Tryz.prog 14 #[.pointer (some ⟨l, 0, none⟩), .agg r.cells] w (NextP p w (SayS 1 hello (.func (.func 117) #[] #[]))) := by
  refine lnext_any hl h r (fun m' w1 w2 k hh => hh.kb k) fun w1 h1 k1 s1 => ?_
  refine then_any h1 hs.over hs.th r (fun m' w1 w2 k hh => hh.kb k) en_getty1 fun w2 h2 k2 s2 => ?_
  exact gettied_any h2 hs.over r he
theorem g3_any {w : World} {l p : Nat} {m : Ma} {fd : Int} {text : ByteArray} (hl : L w l p) (h : M w p m) (hs : SayS fd text (.func (.func 117) #[] #[]) m w) (r : An) (he : r.err = 0) (hn : 1 ≤ r.n) (ht : (text.size : Int) ≤ r.n) :
    Calls Tryz.prog 14 #[.pointer (some ⟨l, 0, none⟩), .agg r.cells] w (NextP p w (At { op := 4, n := 257, line := true } 119)) := by
  refine lnext_any hl h r (fun m' w1 w2 k hh => hh.kb) fun w1 h1 k1 s1 => ?_
  obtain ⟨b1, b2, b3, e1, e2, e3, e4⟩ := (hs.kb k1).th
  refine then_any h1 hs.over e1 r (fun m' w1 w2 k hh => hh.kb) en_say fun w2 h2 k2 s2 => ?_
  exact said_any (k2 _ _ _ (by decide) (by decide) e2) (k2 _ _ _ (by decide) (by decide) e3) r he hn ht en_names1 fun w3 h3 => names1_any (h2.below h3) hs.over
theorem g4_any {w : World} {l p : Nat} {m : Ma} {c : Ca} (hl : L w l p) (h : M w p m) (hs : At c 119 m w) (r : An) (he : r.err = 0) (hz : r.text.size ≤ 9223372036854775807) (ht : r.text.toList.isEmpty = false) (name : ByteArray) (hn : (⟨(Lib.trimSuffix r.text.data.toList [10]).toArray⟩ : ByteArray) = name) (hn0 : name.toList.isEmpty = false) :
    Calls Tryz.prog 14 #[.pointer (some ⟨l, 0, none⟩), .agg r.cells] w (NextP p w (Exec name)) := by
  refine lnext_any hl h r (fun m' w1 w2 k hh => hh.kb k) fun w1 h1 k1 s1 => ?_
  refine then_any h1 hs.over hs.th r (fun m' w1 w2 k hh => hh.kb k) en_names11 fun w2 h2 k2 s2 => ?_
  exact named_any h2 hs.over r he hz ht name hn hn0
set_option maxRecDepth 100000 in
theorem ldog_any {w : World} : Calls Tryz.prog 12 #[.string ⟨#[100, 111, 103]⟩, .slice none 0 0] w fun e w' => e = .returned (.pointer none) ∧ Below w.heap.size w w' := by
  have HP := Lib.hid (prog_dog w)
  have hst : (store ⟨w.heap.size, 0, none⟩ .nilFunc).run Tryz.prog (w.alloc (.cells #[.nilFunc] FT)) = .ok () ((w.alloc (.cells #[.nilFunc] FT)).setCell ⟨w.heap.size, 0, none⟩ .nilFunc) := by
    rw [run_store _ _ _ _ _ rfl]
    simp [stored, cell_of (alloc_heap w (.cells #[.nilFunc] FT)) 0, frozen_of (alloc_heap w (.cells #[.nilFunc] FT)) 0]
  obtain ⟨w1, hw1⟩ : ∃ w1, (w.alloc (.cells #[.nilFunc] FT)).setCell ⟨w.heap.size, 0, none⟩ .nilFunc = w1 := ⟨_, rfl⟩
  rw [hw1] at hst
  have h1 : w1.heap[w.heap.size]? = some (.cells #[.nilFunc] FT (0, 0)) := by rw [← hw1]; exact heap_setCell_same (alloc_heap _ _) _
  have HB : Hid (Below w.heap.size w w1) := Lib.hid (by rw [← hw1]; exact (belowA (Below.refl _ _) _).setCell (Nat.le_refl _) _)
  have x1 : w1.cell? ⟨w.heap.size, 0, none⟩ = some .nilFunc := cell_of h1 0
  have hef : ∀ (W : World), (binOp BinOp.eql FT .nilFunc .nilFunc).run Tryz.prog W = .ok (.bool true) W := fun _ => rfl
  unfold FT at hst hef
  clear hw1 h1
  go_enter Tryz.func12, Tryz.ntmps12
  go_wp2_with fail
  refine HP.out.mono ?_
  rintro e w' ⟨rfl, rfl⟩
  go_wp2
  go_ret
  exact ⟨rfl, HB.out⟩
theorem stored_call {w : World} {C : Array Value} (h : C.size = 20) : ∃ W, World.setCells (w.alloc (.cells #[.int .i64 0, .string ⟨#[]⟩, .string ⟨#[]⟩, .string ⟨#[]⟩, .int .i64 0, .int .i64 0, .int .i64 0, .int .i64 0, .int .i64 0, .int .i64 0, .int .i64 0, .bool false, .bool false, .bool false, .bool false, .int .i64 0, .bool false, .bool false, .slice none 0 0, .slice none 0 0] 39)) w.heap.size 0 C.toList = W ∧ W.heap[w.heap.size]? = some (.cells C 39 (0, 0)) ∧ Below w.heap.size w W ∧ W.heap.size = w.heap.size + 1 ∧ (w.alloc (.cells #[.int .i64 0, .string ⟨#[]⟩, .string ⟨#[]⟩, .string ⟨#[]⟩, .int .i64 0, .int .i64 0, .int .i64 0, .int .i64 0, .int .i64 0, .int .i64 0, .int .i64 0, .bool false, .bool false, .bool false, .bool false, .int .i64 0, .bool false, .bool false, .slice none 0 0, .slice none 0 0] 39)).there w.heap.size 0 C.size := by
  have hA := alloc_heap w (.cells ({ op := 0 } : Ca).cells 39)
  have hwr := heap_setCells C.toList 0 _ _ hA
  rw [putA_whole (show C.size = ({ op := 0 } : Ca).cells.size from h)] at hwr
  have hb := belowA (Below.refl w.heap.size w) (.cells ({ op := 0 } : Ca).cells 39)
  refine ⟨_, rfl, hwr, ⟨(setCells_os _ _ _).1.trans hb.os, (setCells_os _ _ _).2.1.trans hb.tape, (setCells_os _ _ _).2.2.trans hb.output, by rw [setCells_size]; exact hb.size, fun k hk => (heap_setCells_other (by omega) _ _ _).trans (hb.block k hk)⟩, by rw [setCells_size]; exact alloc_size _ _, ?_⟩
  rw [h]
  exact there_of hA
end Go.Proofs.YtlhlehdajkoogaaGreatDoor
/- must, says, and what ignores an answer. -/
namespace Go.Proofs.YtlhlehdajkoogaaGreatDoor
open Go.RowKit

abbrev WT : TypeId := 106
abbrev RT : TypeId := 91
set_option maxRecDepth 100000 in
set_option maxHeartbeats 4000000 in
theorem says_any {w : World} (s : ByteArray) :
    Calls Tryz.prog 125 #[.string s] w fun e w' => e = .returned (.func (.func 163) #[] #[.pointer (some ⟨w.heap.size, 0, none⟩)]) ∧ w' = w.alloc (.cells #[.string s] 9) := by
  have hmf : ∀ (fn : Fn) (first cap : Array Value) (w : World), (Instr.makeFunc fn first cap).run Tryz.prog w = .ok (.func fn first cap) w := fun _ _ _ _ => rfl
  go_enter Tryz.func125, Tryz.ntmps125
  go_wp2
  go_ret
  exact ⟨rfl, rfl⟩
set_option maxRecDepth 100000 in
set_option maxHeartbeats 4000000 in
theorem says1_any {w : World} {b : Nat} {s : ByteArray} (h : w.heap[b]? = some (.cells #[.string s] 9 (0, 0))) (n : Int) :
    Calls Tryz.prog 163 #[.int .i64 n, .pointer (some ⟨b, 0, none⟩)] w fun e w' => e = .returned (.string s) ∧ w' = w := by
  have x0 : w.cell? ⟨b, 0, none⟩ = some (.string s) := cell_of h 0
  clear h
  go_enter Tryz.func163, Tryz.ntmps163
  go_wp2
  go_ret
  exact ⟨rfl, rfl⟩
set_option maxRecDepth 100000 in
set_option maxHeartbeats 4000000 in
theorem ignored_any {w : World} {p b : Nat} {k : FuncId} {ca : Array Value} (h : w.heap[b]? = some (.cells #[.func (.func k) #[] ca] KT (0, 0))) (r : An)
    (hen : ∀ (args : Array Value) (w : World), (callFunc k args).run Tryz.prog w = .ok (.enter k args) w) {R : Ma → World → Prop} (hk : ∀ w1, Below w.heap.size w w1 → Calls Tryz.prog k (#[.pointer (some ⟨p, 0, none⟩)] ++ ca) w1 (ThP p w1 R)) :
    Calls Tryz.prog 157 #[.pointer (some ⟨p, 0, none⟩), .agg r.cells, .pointer (some ⟨b, 0, none⟩)] w (ThP p w R) := by
  obtain ⟨C, hC⟩ : ∃ C, r.cells = C := ⟨_, rfl⟩
  rw [hC]
  have x0 : (w.alloc (.cells C 35)).cell? ⟨b, 0, none⟩ = some (.func (.func k) #[] ca) := cell_of ((alloc_heap_old _ _ (lt_of_heap h)).trans h) 0
  have HK := Lib.hid (hk _ ((Below.refl w.heap.size w).alloc (Nat.le_refl _) (.cells C 35)))
  have HMO := Lib.hid ((Mo.refl p w).alloc (.cells C 35))
  clear hC h hk
  go_enter Tryz.func157, Tryz.ntmps157
  go_wp2_with fail
  refine HK.out.mono ?_
  intro e w1 h
  obtain rfl := h.end
  have H := Lib.hid (h.pre HMO.out)
  clear h
  go_wp2
  exact bodyPost_end (results_none rfl _ _ _) rfl H.out
/-- A machine that made a call that must be answered well. -/
structure MustS (c : Ca) (why t : Value) (m : Ma) (w : World) : Prop where
  over : m.over = false
  c : m.c = c
  th : ∃ b1 b2, m.th = .func (.func 133) #[] #[.pointer (some ⟨b1, 0, none⟩), .pointer (some ⟨b2, 0, none⟩)] ∧ w.heap[b1]? = some (.cells #[why] WT (0, 0)) ∧ w.heap[b2]? = some (.cells #[t] RT (0, 0))
theorem MustS.kb {c : Ca} {why t : Value} {m : Ma} {w w' : World} (h : MustS c why t m w) (k : Kb w w') : MustS c why t m w' := by
  obtain ⟨b1, b2, h1, h2, h3⟩ := h.th
  exact ⟨h.over, h.c, b1, b2, h1, k _ _ _ (by decide) (by decide) h2, k _ _ _ (by decide) (by decide) h3⟩
set_option maxRecDepth 100000 in
set_option maxHeartbeats 4000000 in
theorem must_any {w : World} {p : Nat} {m : Ma} (h : M w p m) (ho : m.over = false) (c : Ca) (h1 : c.args.oneCell' = true) (h2 : c.env.oneCell' = true) (f1 : Fn) (i1 a1 : Array Value) (f2 : Fn) (i2 a2 : Array Value) :
    Calls Tryz.prog 83 #[.pointer (some ⟨p, 0, none⟩), .agg c.cells, .func f1 i1 a1, .func f2 i2 a2] w (ThP p w (Kst m (MustS c (.func f1 i1 a1) (.func f2 i2 a2)))) := by
  have hmf : ∀ (fn : Fn) (first cap : Array Value) (w : World), (Instr.makeFunc fn first cap).run Tryz.prog w = .ok (.func fn first cap) w := fun _ _ _ _ => rfl
  have HO := Lib.hid ho
  have HI : Hid ((Tryz.prog.info? 39).map (·.size) = some c.cells.size) := Lib.hid rfl
  have e1 := alloc_heap w (.cells c.cells 39)
  have e2 := alloc_heap (w.alloc (.cells c.cells 39)) (.cells #[.func f1 i1 a1] WT)
  have e3 := alloc_heap ((w.alloc (.cells c.cells 39)).alloc (.cells #[.func f1 i1 a1] WT)) (.cells #[.func f2 i2 a2] RT)
  rw [alloc_size] at e2
  rw [alloc_size, alloc_size] at e3
  have e12 := (alloc_heap_old ((w.alloc (.cells c.cells 39)).alloc (.cells #[.func f1 i1 a1] WT)) (.cells #[.func f2 i2 a2] RT) (by rw [alloc_size, alloc_size]; omega)).trans ((alloc_heap_old (w.alloc (.cells c.cells 39)) (.cells #[.func f1 i1 a1] WT) (lt_of_heap e1)).trans e1)
  have e22 := (alloc_heap_old ((w.alloc (.cells c.cells 39)).alloc (.cells #[.func f1 i1 a1] WT)) (.cells #[.func f2 i2 a2] RT) (lt_of_heap e2)).trans e2
  have hM := ((h.alloc (.cells c.cells 39)).alloc (.cells #[.func f1 i1 a1] WT)).alloc (.cells #[.func f2 i2 a2] RT)
  have hmo := (((Mo.refl p w).alloc (.cells c.cells 39)).alloc (.cells #[.func f1 i1 a1] WT)).alloc (.cells #[.func f2 i2 a2] RT)
  obtain ⟨w3, hw3⟩ : ∃ w3, ((w.alloc (.cells c.cells 39)).alloc (.cells #[.func f1 i1 a1] WT)).alloc (.cells #[.func f2 i2 a2] RT) = w3 := ⟨_, rfl⟩
  rw [hw3] at e12 e22 e3 hM hmo
  have HB := Lib.hid e12
  have H2 := Lib.hid e22
  have H3 := Lib.hid e3
  have HM := Lib.hid hM
  have HMO := Lib.hid hmo
  have HS := Lib.hid (sys_any hM c (.func 133) #[] #[.pointer (some ⟨w.heap.size + 1, 0, none⟩), .pointer (some ⟨w.heap.size + 1 + 1, 0, none⟩)] h1 h2)
  have HA := Lib.hid (And.intro h1 h2)
  unfold WT RT at hw3
  obtain ⟨C, hC⟩ : ∃ C, c.cells = C := ⟨_, rfl⟩
  rw [hC] at HI HB HS hw3 ⊢
  clear e1 e2 e3 e12 e22 hM hmo h h1 h2 ho hC
  go_enter Tryz.func83, Tryz.ntmps83
  go_wp2_with (refine wpList_load_row rfl 39 _ rfl w.heap.size rfl 39 C (0, 0) _ HB.out Tryz.underlying39 rfl HI.out ?_)
  refine HS.out.mono ?_
  rintro e w4 ⟨rfl, h1, h2⟩
  have hk := Kb.mo HM.out h2
  have H : Hid (ThP p w (Kst m (MustS c (.func f1 i1 a1) (.func f2 i2 a2))) (.returned (.tuple #[])) w4) := Lib.hid (ThP.sys h1 HO.out HA.out.1 HA.out.2 (HMO.out.trans h2) ⟨rfl, HO.out, rfl, _, _, rfl, hk _ _ _ (by decide) (by decide) H2.out, hk _ _ _ (by decide) (by decide) H3.out⟩)
  clear h1 h2 hk
  go_wp2
  exact bodyPost_end (results_none rfl _ _ _) rfl H.out
end Go.Proofs.YtlhlehdajkoogaaGreatDoor
/- must's answer; fails. -/
namespace Go.Proofs.YtlhlehdajkoogaaGreatDoor
open Go.RowKit

set_option maxRecDepth 100000 in
set_option maxHeartbeats 4000000 in
theorem musted_any {w : World} {p b1 b2 : Nat} {k : FuncId} {ca : Array Value} (h2 : w.heap[b2]? = some (.cells #[.func (.func k) #[] ca] RT (0, 0))) (r : An) (he : r.err = 0)
    (hen : ∀ (args : Array Value) (w : World), (callFunc k args).run Tryz.prog w = .ok (.enter k args) w) {R : Ma → World → Prop} (hk : ∀ w1, Below w.heap.size w w1 → Calls Tryz.prog k (#[.pointer (some ⟨p, 0, none⟩), .agg r.cells] ++ ca) w1 (ThP p w1 R)) :
    Calls Tryz.prog 133 #[.pointer (some ⟨p, 0, none⟩), .agg r.cells, .pointer (some ⟨b1, 0, none⟩), .pointer (some ⟨b2, 0, none⟩)] w (ThP p w R) := by
  have HI : Hid ((Tryz.prog.info? 35).map (·.size) = some r.cells.size) := Lib.hid rfl
  obtain ⟨C, hC⟩ : ∃ C, r.cells = C := ⟨_, rfl⟩
  have h0 : C[0]? = some (.int .i64 0) := by rw [← hC, ← he]; rfl
  rw [hC] at HI hk ⊢
  have ha := alloc_heap w (.cells C 35)
  have y2 : (w.alloc (.cells C 35)).cell? ⟨b2, 0, none⟩ = some (.func (.func k) #[] ca) := cell_of ((alloc_heap_old _ _ (lt_of_heap h2)).trans h2) 0
  have x0 : (w.alloc (.cells C 35)).cell? ⟨w.heap.size, 0, none⟩ = some (.int .i64 0) := (cell_of ha 0).trans h0
  have HB := Lib.hid ha
  have HK := Lib.hid (hk _ ((Below.refl w.heap.size w).alloc (Nat.le_refl _) (.cells C 35)))
  have HMO := Lib.hid ((Mo.refl p w).alloc (.cells C 35))
  clear hC h0 h2 hk ha he
  go_enter Tryz.func133, Tryz.ntmps133
  go_wp2_with (refine wpList_load_row rfl 35 _ rfl w.heap.size rfl 35 C (0, 0) _ HB.out Tryz.underlying35 rfl HI.out ?_)
  refine HK.out.mono ?_
  intro e w1 h
  obtain rfl := h.end
  have H := Lib.hid (h.pre HMO.out)
  clear h
  go_wp2
  exact bodyPost_end (results_none rfl _ _ _) rfl H.out
def sColon : ByteArray := ⟨#[58, 32]⟩
def sLf : ByteArray := ⟨#[10]⟩
theorem emp_app (a b : ByteArray) (h : b.size ≠ 0) : (a ++ b).toList.isEmpty = false := by
  rw [ByteArray.toList_eq, ByteArray.data_append]
  have : b.data.toList ≠ [] := fun e => h (by
    show b.data.size = 0
    rw [← Array.length_toList, e]; rfl)
  simp [this]
set_option maxRecDepth 100000 in
set_option maxHeartbeats 4000000 in
theorem failed_any {w : World} {p b : Nat} {m : Ma} (h : M w p m) (ho : m.over = false) {why : ByteArray} (hb : w.heap[b]? = some (.cells #[.string why] 9 (0, 0))) (h1 : m.prog.size ≤ 1000000) (h2 : why.size ≤ 1000000) :
    Calls Tryz.prog 136 #[.pointer (some ⟨p, 0, none⟩), .pointer (some ⟨b, 0, none⟩)] w (ThP p w (Kst m (SayS 2 (m.prog ++ sColon ++ why ++ sLf) (.func (.func 137) #[] #[])))) := by
  have x0 : w.drew.cell? ⟨p, 0, none⟩ = some (.string m.prog) := h.cell 0
  have y0 : w.drew.cell? ⟨b, 0, none⟩ = some (.string why) := cell_of (w := w) hb 0
  have z1 : (m.prog ++ sColon).size = m.prog.size + 2 := by rw [ByteArray.size_append]; rfl
  have z2 : (m.prog ++ sColon ++ why).size = m.prog.size + 2 + why.size := by rw [ByteArray.size_append, z1]
  have g1 : ∀ W : World, (Op.stringOp .add m.prog ⟨#[58, 32]⟩).run Tryz.prog W = .ok (.string (m.prog ++ sColon)) W := fun W => run_string_add_sum (P := Tryz.prog) (w := W) m.prog sColon (by rw [show sColon.size = 2 from rfl]; omega)
  have g2 : ∀ W : World, (Op.stringOp .add (m.prog ++ sColon) why).run Tryz.prog W = .ok (.string (m.prog ++ sColon ++ why)) W := fun W => run_string_add_sum (P := Tryz.prog) (w := W) _ _ (by rw [z1]; omega)
  have g3 : ∀ W : World, (Op.stringOp .add (m.prog ++ sColon ++ why) ⟨#[10]⟩).run Tryz.prog W = .ok (.string (m.prog ++ sColon ++ why ++ sLf)) W := fun W => run_string_add_sum (P := Tryz.prog) (w := W) _ sLf (by rw [z2, show sLf.size = 1 from rfl]; omega)
  have HE : Hid ((m.prog ++ sColon ++ why ++ sLf).toList.isEmpty = false) := Lib.hid (emp_app _ _ (by rw [show sLf.size = 1 from rfl]; omega))
  have HM : Hid (M w.drew p m) := Lib.hid h
  have HMO := Lib.hid ((Mo.refl p w).drew)
  have HO := Lib.hid ho
  clear h hb ho
  go_enter Tryz.func136, Tryz.ntmps136
  go_wp2_with fail
  go_still_tail 10, (by kernel_rfl)
  go_wp2_with fail
  refine (say_st HM.out HO.out 2 (m.prog ++ sColon ++ why ++ sLf) HE.out _ _ _).mono ?_
  intro e w1 h
  obtain rfl := h.end
  have H := Lib.hid (h.pre HMO.out)
  clear h
  go_wp2
  exact bodyPost_end (results_none rfl _ _ _) rfl H.out
end Go.Proofs.YtlhlehdajkoogaaGreatDoor
/- fails, where no new file is being written; the end. -/
namespace Go.Proofs.YtlhlehdajkoogaaGreatDoor
open Go.RowKit

set_option maxRecDepth 100000 in
set_option maxHeartbeats 4000000 in
theorem fails_any {w : World} {p : Nat} {m : Ma} (h : M w p m) (ho : m.over = false) (hw : m.writes = false) (why : ByteArray) (h1 : m.prog.size ≤ 1000000) (h2 : why.size ≤ 1000000) :
    Calls Tryz.prog 89 #[.pointer (some ⟨p, 0, none⟩), .string why] w (ThP p w (Kst m (SayS 2 (m.prog ++ sColon ++ why ++ sLf) (.func (.func 137) #[] #[])))) := by
  have hmf : ∀ (fn : Fn) (first cap : Array Value) (w : World), (Instr.makeFunc fn first cap).run Tryz.prog w = .ok (.func fn first cap) w := fun _ _ _ _ => rfl
  have e1 := alloc_heap w (.cells #[.string why] 9)
  have e2 := alloc_heap (w.alloc (.cells #[.string why] 9)) (.cells #[.nilFunc] KT)
  rw [alloc_size] at e2
  have e12 := (alloc_heap_old (w.alloc (.cells #[.string why] 9)) (.cells #[.nilFunc] KT) (lt_of_heap e1)).trans e1
  have hM := (h.alloc (.cells #[.string why] 9)).alloc (.cells #[.nilFunc] KT)
  have hmo := ((Mo.refl p w).alloc (.cells #[.string why] 9)).alloc (.cells #[.nilFunc] KT)
  obtain ⟨w2, hw2⟩ : ∃ w2, (w.alloc (.cells #[.string why] 9)).alloc (.cells #[.nilFunc] KT) = w2 := ⟨_, rfl⟩
  rw [hw2] at e2 e12 hM hmo
  have hst := store_func (cell_of e2 0) (frozen_of e2 0) (.func 136) #[] #[.pointer (some ⟨w.heap.size, 0, none⟩)]
  have hlt := h.lt
  obtain ⟨w3, hw3⟩ : ∃ w3, w2.setCell ⟨w.heap.size + 1, 0, none⟩ (.func (.func 136) #[] #[.pointer (some ⟨w.heap.size, 0, none⟩)]) = w3 := ⟨_, rfl⟩
  rw [hw3] at hst
  have k1 : w3.heap[w.heap.size]? = some (.cells #[.string why] 9 (0, 0)) := by rw [← hw3]; exact (Below.heap_setCell _ _ _ _ (fun e => by have e' : w.heap.size = w.heap.size + 1 := e; omega)).trans e12
  have k2 : w3.cell? ⟨w.heap.size + 1, 0, none⟩ = some (.func (.func 136) #[] #[.pointer (some ⟨w.heap.size, 0, none⟩)]) := by rw [← hw3]; exact cell_of (heap_setCell_same e2 _) 0
  have hM3 : M w3 p m := by rw [← hw3]; exact (Below.heap_setCell _ _ _ _ (fun e => by have e' : p = w.heap.size + 1 := e; omega)).trans hM
  have hmo3 : Mo p w w3 := by
    rw [← hw3]
    exact ⟨hmo.os, hmo.tape, hmo.output, by rw [World.size_setCell]; exact hmo.size, fun b hb hne => (Below.heap_setCell _ _ _ _ (fun e => by have e' : b = w.heap.size + 1 := e; omega)).trans (hmo.block b hb hne)⟩
  have k3 : w3.cell? ⟨p, 2, none⟩ = some (.bool false) := by rw [hM3.cell 2, ← hw]; rfl
  have HF := Lib.hid (failed_any hM3 ho k1 h1 h2)
  have HMO := Lib.hid hmo3
  unfold KT at hw2
  clear h ho hw h1 h2 e1 e2 e12 hM hmo hw3 k1 hM3 hmo3
  go_enter Tryz.func89, Tryz.ntmps89
  go_wp2_with fail
  refine HF.out.mono ?_
  intro e w4 h
  obtain rfl := h.end
  have H := Lib.hid (h.pre HMO.out)
  clear h
  go_wp2
  exact bodyPost_end (results_none rfl _ _ _) rfl H.out
/-- A machine at its end. -/
structure EndS (n : Int) (m : Ma) (w : World) : Prop where
  over : m.over = true
  c : m.c = { op := 20, n := n }
theorem bits_one : bits BinOp.and .i64 1 255 = 1 := by decide +kernel
theorem bits_zero : bits BinOp.and .i64 0 255 = 0 := by decide +kernel
set_option maxRecDepth 100000 in
set_option maxHeartbeats 4000000 in
theorem ended_any {w : World} {p : Nat} {m : Ma} (h : M w p m) (hth : m.th = .nilFunc) :
    Calls Tryz.prog 137 #[.pointer (some ⟨p, 0, none⟩)] w (ThP p w (Kst m (EndS 1))) := by
  have HE := Lib.hid (exit_any h 1)
  have HT := Lib.hid hth
  clear h hth
  go_enter Tryz.func137, Tryz.ntmps137
  go_wp2_with fail
  refine HE.out.mono ?_
  rintro e w1 ⟨rfl, h1, h2⟩
  have H : Hid (ThP p w (Kst m (EndS 1)) (.returned (.tuple #[])) w1) := Lib.hid ⟨rfl, _, h1, ⟨⟨rfl, rfl⟩, .inr ⟨HT.out, rfl⟩⟩, h2, rfl, rfl, by rw [bits_one]⟩
  clear h1 h2
  go_wp2
  exact bodyPost_end (results_none rfl _ _ _) rfl H.out
end Go.Proofs.YtlhlehdajkoogaaGreatDoor
/- Slurp: a descriptor is read up to its end. -/
namespace Go.Proofs.YtlhlehdajkoogaaGreatDoor
open Go.RowKit

abbrev TT : TypeId := 125
/-- What a slurping machine's closures hold: what is called behind it, the text so far, the descriptor. -/
structure Slp (fd : Int) (s : ByteArray) (f : Value) (w : World) (bf bs bt : Nat) : Prop where
  fd : w.heap[bf]? = some (.cells #[.int .i64 fd] 3 (0, 0))
  s : w.heap[bs]? = some (.cells #[.string s] 9 (0, 0))
  t : w.heap[bt]? = some (.cells #[f] TT (0, 0))
theorem Slp.kb {fd : Int} {s : ByteArray} {f : Value} {w w' : World} {bf bs bt : Nat} (h : Slp fd s f w bf bs bt) (k : Kb w w') : Slp fd s f w' bf bs bt := ⟨k _ _ _ (by decide) (by decide) h.fd, k _ _ _ (by decide) (by decide) h.s, k _ _ _ (by decide) (by decide) h.t⟩
/-- A machine that reads on. -/
structure SlurpS (fd : Int) (s : ByteArray) (f : Value) (m : Ma) (w : World) : Prop where
  over : m.over = false
  c : m.c = { op := 4, fd := fd, n := 256 }
  th : ∃ bd bf bs bt, m.th = .func (.func 166) #[] #[.pointer (some ⟨bd, 0, none⟩), .pointer (some ⟨bf, 0, none⟩), .pointer (some ⟨bs, 0, none⟩), .pointer (some ⟨bt, 0, none⟩)] ∧ w.heap[bd]? = some (.cells #[.func (.func 164) #[] #[.pointer (some ⟨bf, 0, none⟩), .pointer (some ⟨bt, 0, none⟩), .pointer (some ⟨bs, 0, none⟩)]] KT (0, 0)) ∧ Slp fd s f w bf bs bt
theorem SlurpS.kb {fd : Int} {s : ByteArray} {f : Value} {m : Ma} {w w' : World} (h : SlurpS fd s f m w) (k : Kb w w') : SlurpS fd s f m w' := by
  obtain ⟨bd, bf, bs, bt, h1, h2, h3⟩ := h.th
  exact ⟨h.over, h.c, bd, bf, bs, bt, h1, k _ _ _ (by decide) (by decide) h2, h3.kb k⟩
/-- A machine that closes what it read. -/
structure ClosS (fd : Int) (s : ByteArray) (f : Value) (m : Ma) (w : World) : Prop where
  over : m.over = false
  c : m.c = { op := 3, fd := fd }
  th : ∃ bf bs bt, m.th = .func (.func 165) #[] #[.pointer (some ⟨bt, 0, none⟩), .pointer (some ⟨bs, 0, none⟩)] ∧ Slp fd s f w bf bs bt
theorem ClosS.kb {fd : Int} {s : ByteArray} {f : Value} {m : Ma} {w w' : World} (h : ClosS fd s f m w) (k : Kb w w') : ClosS fd s f m w' := by
  obtain ⟨bf, bs, bt, h1, h3⟩ := h.th
  exact ⟨h.over, h.c, bf, bs, bt, h1, h3.kb k⟩
set_option maxRecDepth 100000 in
set_option maxHeartbeats 4000000 in
theorem done_any {w : World} {p : Nat} {m : Ma} (h : M w p m) (ho : m.over = false) {fd : Int} {s : ByteArray} {f : Value} {bf bs bt : Nat} (hs : Slp fd s f w bf bs bt) :
    Calls Tryz.prog 164 #[.pointer (some ⟨p, 0, none⟩), .pointer (some ⟨bf, 0, none⟩), .pointer (some ⟨bt, 0, none⟩), .pointer (some ⟨bs, 0, none⟩)] w (ThP p w (Kst m (ClosS fd s f))) := by
  have hmf : ∀ (fn : Fn) (first cap : Array Value) (w : World), (Instr.makeFunc fn first cap).run Tryz.prog w = .ok (.func fn first cap) w := fun _ _ _ _ => rfl
  have x0 : w.cell? ⟨bf, 0, none⟩ = some (.int .i64 fd) := cell_of hs.fd 0
  have HM := Lib.hid h
  have HO := Lib.hid ho
  have HS := Lib.hid hs
  have HC := Lib.hid (sys_any h { op := 3, fd := fd } (.func 165) #[] #[.pointer (some ⟨bt, 0, none⟩), .pointer (some ⟨bs, 0, none⟩)] rfl rfl)
  clear h ho hs
  go_enter Tryz.func164, Tryz.ntmps164
  go_wp2_with fail
  refine HC.out.mono ?_
  rintro e w1 ⟨rfl, h1, h2⟩
  have H : Hid (ThP p w (Kst m (ClosS fd s f)) (.returned (.tuple #[])) w1) := Lib.hid (ThP.sys h1 HO.out rfl rfl h2 ⟨rfl, HO.out, rfl, bf, bs, bt, rfl, HS.out.kb (Kb.mo HM.out h2)⟩)
  clear h1 h2
  go_wp2
  exact bodyPost_end (results_none rfl _ _ _) rfl H.out
set_option maxRecDepth 100000 in
set_option maxHeartbeats 4000000 in
theorem closed_any {w : World} {p : Nat} {k : FuncId} {ca : Array Value} {fd : Int} {s : ByteArray} {bf bs bt : Nat} (hs : Slp fd s (.func (.func k) #[] ca) w bf bs bt) (r : An)
    (hen : ∀ (args : Array Value) (w : World), (callFunc k args).run Tryz.prog w = .ok (.enter k args) w) {R : Ma → World → Prop} (hk : ∀ w1, Below w.heap.size w w1 → Calls Tryz.prog k (#[.pointer (some ⟨p, 0, none⟩), .string s] ++ ca) w1 (ThP p w1 R)) :
    Calls Tryz.prog 165 #[.pointer (some ⟨p, 0, none⟩), .agg r.cells, .pointer (some ⟨bt, 0, none⟩), .pointer (some ⟨bs, 0, none⟩)] w (ThP p w R) := by
  obtain ⟨C, hC⟩ : ∃ C, r.cells = C := ⟨_, rfl⟩
  rw [hC]
  have x0 : (w.alloc (.cells C 35)).cell? ⟨bt, 0, none⟩ = some (.func (.func k) #[] ca) := cell_of ((alloc_heap_old _ _ (lt_of_heap hs.t)).trans hs.t) 0
  have x1 : (w.alloc (.cells C 35)).cell? ⟨bs, 0, none⟩ = some (.string s) := cell_of ((alloc_heap_old _ _ (lt_of_heap hs.s)).trans hs.s) 0
  have HK := Lib.hid (hk _ ((Below.refl w.heap.size w).alloc (Nat.le_refl _) (.cells C 35)))
  have HMO := Lib.hid ((Mo.refl p w).alloc (.cells C 35))
  clear hC hs hk
  go_enter Tryz.func165, Tryz.ntmps165
  go_wp2_with fail
  refine HK.out.mono ?_
  intro e w1 h
  obtain rfl := h.end
  have H := Lib.hid (h.pre HMO.out)
  clear h
  go_wp2
  exact bodyPost_end (results_none rfl _ _ _) rfl H.out
set_option maxRecDepth 100000 in
set_option maxHeartbeats 4000000 in
theorem slurp_any {w : World} {p : Nat} {m : Ma} (h : M w p m) (ho : m.over = false) (fd : Int) (s : ByteArray) (hs : s.size ≤ 4096) (fn : Fn) (fi ca : Array Value) :
    Calls Tryz.prog 127 #[.pointer (some ⟨p, 0, none⟩), .int .i64 fd, .string s, .func fn fi ca] w (ThP p w (Kst m (SlurpS fd s (.func fn fi ca)))) := by
  have hmf : ∀ (fn : Fn) (first cap : Array Value) (w : World), (Instr.makeFunc fn first cap).run Tryz.prog w = .ok (.func fn first cap) w := fun _ _ _ _ => rfl
  have a1 := alloc_heap w (.cells #[.int .i64 fd] 3)
  have b1 := alloc_heap (w.alloc (.cells #[.int .i64 fd] 3)) (.cells #[.string s] 9)
  have c1 := alloc_heap ((w.alloc (.cells #[.int .i64 fd] 3)).alloc (.cells #[.string s] 9)) (.cells #[.func fn fi ca] TT)
  have d1 := alloc_heap (((w.alloc (.cells #[.int .i64 fd] 3)).alloc (.cells #[.string s] 9)).alloc (.cells #[.func fn fi ca] TT)) (.cells #[.nilFunc] KT)
  have a2 := (alloc_heap_old _ (.cells #[.string s] 9) (lt_of_heap a1)).trans a1
  have a3 := (alloc_heap_old _ (.cells #[.func fn fi ca] TT) (lt_of_heap a2)).trans a2
  have a4 := (alloc_heap_old _ (.cells #[.nilFunc] KT) (lt_of_heap a3)).trans a3
  have b2 := (alloc_heap_old _ (.cells #[.func fn fi ca] TT) (lt_of_heap b1)).trans b1
  have b3 := (alloc_heap_old _ (.cells #[.nilFunc] KT) (lt_of_heap b2)).trans b2
  have c2 := (alloc_heap_old _ (.cells #[.nilFunc] KT) (lt_of_heap c1)).trans c1
  rw [alloc_size] at b3 c2 d1
  rw [alloc_size] at c2 d1
  rw [alloc_size] at d1
  have hM := (((h.alloc (.cells #[.int .i64 fd] 3)).alloc (.cells #[.string s] 9)).alloc (.cells #[.func fn fi ca] TT)).alloc (.cells #[.nilFunc] KT)
  have hmo := ((((Mo.refl p w).alloc (.cells #[.int .i64 fd] 3)).alloc (.cells #[.string s] 9)).alloc (.cells #[.func fn fi ca] TT)).alloc (.cells #[.nilFunc] KT)
  have hsz : ((((w.alloc (.cells #[.int .i64 fd] 3)).alloc (.cells #[.string s] 9)).alloc (.cells #[.func fn fi ca] TT))).heap.size = w.heap.size + 1 + 1 + 1 := by rw [alloc_size, alloc_size, alloc_size]
  obtain ⟨w4, hw4⟩ : ∃ w4, ((((w.alloc (.cells #[.int .i64 fd] 3)).alloc (.cells #[.string s] 9)).alloc (.cells #[.func fn fi ca] TT)).alloc (.cells #[.nilFunc] KT)) = w4 := ⟨_, rfl⟩
  rw [hw4] at a4 b3 c2 d1 hM hmo
  obtain ⟨b, hb⟩ : ∃ b, w.heap.size + 1 + 1 + 1 = b := ⟨_, rfl⟩
  rw [hb] at d1
  have hlt := h.lt
  have hst := store_func (cell_of d1 0) (frozen_of d1 0) (.func 164) #[] #[.pointer (some ⟨w.heap.size, 0, none⟩), .pointer (some ⟨w.heap.size + 1 + 1, 0, none⟩), .pointer (some ⟨w.heap.size + 1, 0, none⟩)]
  obtain ⟨w5, hw5⟩ : ∃ w5, w4.setCell ⟨b, 0, none⟩ (.func (.func 164) #[] #[.pointer (some ⟨w.heap.size, 0, none⟩), .pointer (some ⟨w.heap.size + 1 + 1, 0, none⟩), .pointer (some ⟨w.heap.size + 1, 0, none⟩)]) = w5 := ⟨_, rfl⟩
  rw [hw5] at hst
  have keep : ∀ k, k < b → w5.heap[k]? = w4.heap[k]? := fun k hk => by rw [← hw5]; exact Below.heap_setCell _ _ _ _ (fun e => by have e' : k = b := e; omega)
  have hd5 : w5.heap[b]? = some (.cells #[.func (.func 164) #[] #[.pointer (some ⟨w.heap.size, 0, none⟩), .pointer (some ⟨w.heap.size + 1 + 1, 0, none⟩), .pointer (some ⟨w.heap.size + 1, 0, none⟩)]] KT (0, 0)) := by rw [← hw5]; exact heap_setCell_same d1 _
  have hsl : Slp fd s (.func fn fi ca) w5 w.heap.size (w.heap.size + 1) (w.heap.size + 1 + 1) := ⟨(keep _ (by omega)).trans a4, (keep _ (by omega)).trans b3, (keep _ (by omega)).trans c2⟩
  have hM5 : M w5 p m := (keep p (by omega)).trans hM
  have hmo5 : Mo p w w5 := by
    rw [← hw5]
    exact ⟨hmo.os, hmo.tape, hmo.output, by rw [World.size_setCell]; exact hmo.size, fun k hk hne => (Below.heap_setCell _ _ _ _ (fun e => by have e' : k = b := e; omega)).trans (hmo.block k hk hne)⟩
  have y0 : w5.cell? ⟨w.heap.size, 0, none⟩ = some (.int .i64 fd) := cell_of hsl.fd 0
  have y1 : w5.cell? ⟨w.heap.size + 1, 0, none⟩ = some (.string s) := cell_of hsl.s 0
  have hsi : (s.size : Int) ≤ 4096 := by omega
  have HC := Lib.hid (sys_any hM5 { op := 4, fd := fd, n := 256 } (.func 166) #[] #[.pointer (some ⟨b, 0, none⟩), .pointer (some ⟨w.heap.size, 0, none⟩), .pointer (some ⟨w.heap.size + 1, 0, none⟩), .pointer (some ⟨w.heap.size + 1 + 1, 0, none⟩)] rfl rfl)
  have HM := Lib.hid hM5
  have HO := Lib.hid ho
  have HS := Lib.hid hsl
  have HD := Lib.hid hd5
  have HMO := Lib.hid hmo5
  have HSZ := Lib.hid hsz
  have HBB := Lib.hid hb
  unfold KT TT at hw4
  clear h ho a1 a2 a3 a4 b1 b2 b3 c1 c2 d1 hM hmo hw5 keep hd5 hsl hM5 hmo5 hs hlt hsz
  go_enter Tryz.func127, Tryz.ntmps127
  go_wp2_with fail
  refine HC.out.mono ?_
  rintro e w6 ⟨rfl, h1, h2⟩
  have hk := Kb.mo HM.out h2
  have H : Hid (ThP p w (Kst m (SlurpS fd s (.func fn fi ca))) (.returned (.tuple #[])) w6) := Lib.hid (ThP.sys h1 HO.out rfl rfl (HMO.out.trans h2) ⟨rfl, HO.out, rfl, _, _, _, _, rfl, hk _ _ _ (by decide) (by decide) HD.out, HS.out.kb hk⟩)
  clear h1 h2 hk
  go_wp2
  exact bodyPost_end (results_none rfl _ _ _) rfl H.out
end Go.Proofs.YtlhlehdajkoogaaGreatDoor
/- Slurp's answer. -/
namespace Go.Proofs.YtlhlehdajkoogaaGreatDoor
open Go.RowKit

set_option maxRecDepth 100000 in
set_option maxHeartbeats 4000000 in
theorem slurped_end {w : World} {p : Nat} {m : Ma} (h : M w p m) (ho : m.over = false) {fd : Int} {s : ByteArray} {f : Value} {bd bf bs bt : Nat} (hd : w.heap[bd]? = some (.cells #[.func (.func 164) #[] #[.pointer (some ⟨bf, 0, none⟩), .pointer (some ⟨bt, 0, none⟩), .pointer (some ⟨bs, 0, none⟩)]] KT (0, 0))) (hs : Slp fd s f w bf bs bt) (r : An) (he : r.err ≠ 0 ∨ r.err = 0 ∧ r.text.toList.isEmpty = true) :
    Calls Tryz.prog 166 #[.pointer (some ⟨p, 0, none⟩), .agg r.cells, .pointer (some ⟨bd, 0, none⟩), .pointer (some ⟨bf, 0, none⟩), .pointer (some ⟨bs, 0, none⟩), .pointer (some ⟨bt, 0, none⟩)] w (ThP p w (Kst m (ClosS fd s f))) := by
  obtain ⟨C, hC⟩ : ∃ C, r.cells = C := ⟨_, rfl⟩
  have h0 : C[0]? = some (.int .i64 r.err) := by rw [← hC]; rfl
  have h3 : C[3]? = some (.string r.text) := by rw [← hC]; rfl
  generalize r.err = er at *
  generalize r.text = tx at *
  rw [hC]
  have ha := alloc_heap w (.cells C 35)
  have hb := belowA (Below.refl w.heap.size w) (.cells C 35)
  have hmo := (Mo.refl p w).alloc (.cells C 35)
  obtain ⟨w1, hw1⟩ : ∃ w1, w.alloc (.cells C 35) = w1 := ⟨_, rfl⟩
  rw [hw1] at ha hb hmo
  have x0 : w1.cell? ⟨w.heap.size, 0, none⟩ = some (.int .i64 er) := (cell_of ha 0).trans h0
  have x3 : w1.cell? ⟨w.heap.size, 3, none⟩ = some (.string tx) := (cell_of ha 3).trans h3
  have xd : w1.cell? ⟨bd, 0, none⟩ = some (.func (.func 164) #[] #[.pointer (some ⟨bf, 0, none⟩), .pointer (some ⟨bt, 0, none⟩), .pointer (some ⟨bs, 0, none⟩)]) := cell_of (Kb.below hb _ _ _ (by decide) (by decide) hd) 0
  have HC := Lib.hid (done_any (h.below hb) ho (hs.kb (Kb.below hb)))
  have HMO := Lib.hid hmo
  clear h ho hd hs hC h0 h3 ha hb hmo
  rcases he with he | ⟨rfl, ht⟩
  case' inl => have heb : (er != 0) = true := by simpa using he
  case' inl => clear he
  all_goals
    go_enter Tryz.func166, Tryz.ntmps166
    go_wp2_with fail
    refine HC.out.mono ?_
    intro e w2 h
    obtain rfl := h.end
    have H := Lib.hid (h.pre HMO.out)
    clear h
    go_wp2
    exact bodyPost_end (results_none rfl _ _ _) rfl H.out
set_option maxRecDepth 100000 in
set_option maxHeartbeats 4000000 in
theorem slurped_more {w : World} {p : Nat} {m : Ma} (h : M w p m) (ho : m.over = false) {fd : Int} {s : ByteArray} {fn : Fn} {fi ca : Array Value} {bd bf bs bt : Nat} (hs : Slp fd s (.func fn fi ca) w bf bs bt) (r : An) (he : r.err = 0) (ht : r.text.toList.isEmpty = false) (hz : (s ++ r.text).size ≤ 4096) :
    Calls Tryz.prog 166 #[.pointer (some ⟨p, 0, none⟩), .agg r.cells, .pointer (some ⟨bd, 0, none⟩), .pointer (some ⟨bf, 0, none⟩), .pointer (some ⟨bs, 0, none⟩), .pointer (some ⟨bt, 0, none⟩)] w (ThP p w (Kst m (SlurpS fd (s ++ r.text) (.func fn fi ca)))) := by
  obtain ⟨C, hC⟩ : ∃ C, r.cells = C := ⟨_, rfl⟩
  have h0 : C[0]? = some (.int .i64 0) := by rw [← hC, ← he]; rfl
  have h3 : C[3]? = some (.string r.text) := by rw [← hC]; rfl
  generalize r.text = tx at *
  rw [hC]
  have ha := alloc_heap w (.cells C 35)
  have hb := belowA (Below.refl w.heap.size w) (.cells C 35)
  have hmo := (Mo.refl p w).alloc (.cells C 35)
  obtain ⟨w1, hw1⟩ : ∃ w1, w.alloc (.cells C 35) = w1 := ⟨_, rfl⟩
  rw [hw1] at ha hb hmo
  have hs1 := hs.kb (Kb.below hb)
  have x0 : w1.cell? ⟨w.heap.size, 0, none⟩ = some (.int .i64 0) := (cell_of ha 0).trans h0
  have x3 : w1.cell? ⟨w.heap.size, 3, none⟩ = some (.string tx) := (cell_of ha 3).trans h3
  have x4 : w1.cell? ⟨bf, 0, none⟩ = some (.int .i64 fd) := cell_of hs1.fd 0
  have x5 : w1.cell? ⟨bs, 0, none⟩ = some (.string s) := cell_of hs1.s 0
  have x6 : w1.cell? ⟨bt, 0, none⟩ = some (.func fn fi ca) := cell_of hs1.t 0
  have g1 : ∀ W : World, (Op.stringOp .add s tx).run Tryz.prog W = .ok (.string (s ++ tx)) W := fun W => run_string_add_sum (P := Tryz.prog) (w := W) s tx (by rw [ByteArray.size_append] at hz; omega)
  have HC := Lib.hid (slurp_any (h.below hb) ho fd (s ++ tx) hz fn fi ca)
  have HMO := Lib.hid hmo
  clear h ho hs hs1 hC h0 h3 ha hb hmo hz he
  go_enter Tryz.func166, Tryz.ntmps166
  go_wp2_with fail
  refine HC.out.mono ?_
  intro e w2 h
  obtain rfl := h.end
  have H := Lib.hid (h.pre HMO.out)
  clear h
  go_wp2
  exact bodyPost_end (results_none rfl _ _ _) rfl H.out
end Go.Proofs.YtlhlehdajkoogaaGreatDoor
/- asks: a password is asked for. -/
namespace Go.Proofs.YtlhlehdajkoogaaGreatDoor
open Go.RowKit

theorem ThP.more {w : World} {p : Nat} {m : Ma} {R R1 : Ma → World → Prop} {e : Ending} {w' : World} (hM : M w p m) (h : ThP p w R e w') (f : ∀ m' w', Kb w w' → R m' w' → R1 m' w') : ThP p w R1 e w' := by
  obtain ⟨h1, m', h2, h3, h4, h5⟩ := h
  exact ⟨h1, m', h2, h3, h4, f _ _ (Kb.mo hM h4) h5⟩
/-- New blocks, one, two, three, four. -/
theorem boxes1 (w : World) (c1 : Array Value) (t1 : TypeId) : ∃ W, w.alloc (.cells c1 t1) = W ∧ W.heap[w.heap.size]? = some (.cells c1 t1 (0, 0)) ∧ Below w.heap.size w W ∧ W.heap.size = w.heap.size + 1 :=
  ⟨_, rfl, alloc_heap _ _, belowA (Below.refl _ _) _, alloc_size _ _⟩
theorem boxes2 (w : World) (c1 c2 : Array Value) (t1 t2 : TypeId) : ∃ W, (w.alloc (.cells c1 t1)).alloc (.cells c2 t2) = W ∧ W.heap[w.heap.size]? = some (.cells c1 t1 (0, 0)) ∧ W.heap[w.heap.size + 1]? = some (.cells c2 t2 (0, 0)) ∧ Below w.heap.size w W ∧ W.heap.size = w.heap.size + 1 + 1 := by
  have a1 := alloc_heap w (.cells c1 t1)
  have b1 := alloc_heap (w.alloc (.cells c1 t1)) (.cells c2 t2)
  rw [alloc_size] at b1
  exact ⟨_, rfl, (alloc_heap_old _ _ (lt_of_heap a1)).trans a1, b1, (belowA (belowA (Below.refl _ _) _) _), by rw [alloc_size, alloc_size]⟩
theorem boxes3 (w : World) (c1 c2 c3 : Array Value) (t1 t2 t3 : TypeId) : ∃ W, ((w.alloc (.cells c1 t1)).alloc (.cells c2 t2)).alloc (.cells c3 t3) = W ∧ W.heap[w.heap.size]? = some (.cells c1 t1 (0, 0)) ∧ W.heap[w.heap.size + 1]? = some (.cells c2 t2 (0, 0)) ∧ W.heap[w.heap.size + 1 + 1]? = some (.cells c3 t3 (0, 0)) ∧ Below w.heap.size w W ∧ W.heap.size = w.heap.size + 1 + 1 + 1 := by
  obtain ⟨W2, e2, h1, h2, hb, hs⟩ := boxes2 w c1 c2 t1 t2
  have c := alloc_heap W2 (.cells c3 t3)
  rw [hs] at c
  rw [e2]
  exact ⟨_, rfl, (alloc_heap_old _ _ (lt_of_heap h1)).trans h1, (alloc_heap_old _ _ (lt_of_heap h2)).trans h2, c, belowA hb _, by rw [alloc_size, hs]⟩
theorem boxes4 (w : World) (c1 c2 c3 c4 : Array Value) (t1 t2 t3 t4 : TypeId) : ∃ W, (((w.alloc (.cells c1 t1)).alloc (.cells c2 t2)).alloc (.cells c3 t3)).alloc (.cells c4 t4) = W ∧ W.heap[w.heap.size]? = some (.cells c1 t1 (0, 0)) ∧ W.heap[w.heap.size + 1]? = some (.cells c2 t2 (0, 0)) ∧ W.heap[w.heap.size + 1 + 1]? = some (.cells c3 t3 (0, 0)) ∧ W.heap[w.heap.size + 1 + 1 + 1]? = some (.cells c4 t4 (0, 0)) ∧ Below w.heap.size w W ∧ W.heap.size = w.heap.size + 1 + 1 + 1 + 1 := by
  obtain ⟨W3, e3, h1, h2, h3, hb, hs⟩ := boxes3 w c1 c2 c3 t1 t2 t3
  have c := alloc_heap W3 (.cells c4 t4)
  rw [hs] at c
  rw [e3]
  exact ⟨_, rfl, (alloc_heap_old _ _ (lt_of_heap h1)).trans h1, (alloc_heap_old _ _ (lt_of_heap h2)).trans h2, (alloc_heap_old _ _ (lt_of_heap h3)).trans h3, c, belowA hb _, by rw [alloc_size, hs]⟩
theorem Kb.get {w w' : World} (k : Kb w w') {b : Nat} {C : Array Value} {T : TypeId} (h : w.heap[b]? = some (.cells C T (0, 0))) (h1 : T ≠ 39 := by decide) (h2 : T ≠ MT := by decide) : w'.heap[b]? = some (.cells C T (0, 0)) := k _ _ _ h1 h2 h

/-- A machine that put the echo off. -/
def AskS (prompt : ByteArray) (f : Value) (m : Ma) (w : World) : Prop := ∃ b bp bt, MustS { op := 24 } (.func (.func 163) #[] #[.pointer (some ⟨b, 0, none⟩)]) (.func (.func 145) #[] #[.pointer (some ⟨bp, 0, none⟩), .pointer (some ⟨bt, 0, none⟩)]) m w ∧ w.heap[b]? = some (.cells #[.string ⟨#[110, 111, 32, 116, 101, 114, 109, 105, 110, 97, 108]⟩] 9 (0, 0)) ∧ w.heap[bp]? = some (.cells #[.string prompt] 9 (0, 0)) ∧ w.heap[bt]? = some (.cells #[f] TT (0, 0))
theorem AskS.kb {prompt : ByteArray} {f : Value} {m : Ma} {w w' : World} (h : AskS prompt f m w) (k : Kb w w') : AskS prompt f m w' := by
  obtain ⟨b, bp, bt, h1, h2, h3, h4⟩ := h
  exact ⟨b, bp, bt, h1.kb k, k.get h2, k.get h3, k.get h4⟩
set_option maxRecDepth 100000 in
set_option maxHeartbeats 4000000 in
theorem asks_any {w : World} {p : Nat} {m : Ma} (h : M w p m) (ho : m.over = false) (prompt : ByteArray) (fn : Fn) (fi ca : Array Value) :
    Calls Tryz.prog 97 #[.pointer (some ⟨p, 0, none⟩), .string prompt, .func fn fi ca] w (ThP p w (Kst m (AskS prompt (.func fn fi ca)))) := by
  have hmf : ∀ (fn : Fn) (first cap : Array Value) (w : World), (Instr.makeFunc fn first cap).run Tryz.prog w = .ok (.func fn first cap) w := fun _ _ _ _ => rfl
  obtain ⟨W, hW, h1, h2, hb, hsz⟩ := boxes2 w #[.string prompt] #[.func fn fi ca] 9 TT
  have HM := Lib.hid (h.below hb)
  have HO := Lib.hid ho
  have HP := Lib.hid h1
  have HT := Lib.hid h2
  have HMO := Lib.hid (Mo.of (b := p) hb)
  unfold TT at hW
  clear h ho h1 h2 hb hsz
  go_enter Tryz.func97, Tryz.ntmps97
  go_wp2_with fail
  refine (says_any _).mono ?_
  rintro e w1 ⟨rfl, rfl⟩
  obtain ⟨W1, hW1, hx, hb1, _⟩ := boxes1 W #[.string ⟨#[110, 111, 32, 116, 101, 114, 109, 105, 110, 97, 108]⟩] 9
  rw [hW1]
  have HM1 := Lib.hid (HM.out.below hb1)
  have HX := Lib.hid hx
  have HP1 := Lib.hid ((Kb.below hb1).get HP.out)
  have HT1 := Lib.hid ((Kb.below hb1).get HT.out)
  have HMO1 := Lib.hid (HMO.out.below hb1)
  clear hb1 hx HM HP HT HMO hW1 hW
  go_wp2_with fail
  refine (must_any HM1.out HO.out { op := 24 } rfl rfl _ _ _ _ _ _).mono ?_
  intro e w2 h
  obtain rfl := h.end
  have H := Lib.hid ((h.more HM1.out (R1 := Kst m (AskS prompt (.func fn fi ca))) fun m' w' k hh => ⟨hh.1, _, _, _, hh.2, k.get HX.out, k.get HP1.out, k.get HT1.out⟩).pre HMO1.out)
  clear h
  go_wp2
  exact bodyPost_end (results_none rfl _ _ _) rfl H.out
end Go.Proofs.YtlhlehdajkoogaaGreatDoor
/- asks: what follows. -/
namespace Go.Proofs.YtlhlehdajkoogaaGreatDoor
open Go.RowKit

/-- A machine that says its prompt. -/
def AskSay (prompt : ByteArray) (f : Value) (m : Ma) (w : World) : Prop := ∃ bt, SayS 1 prompt (.func (.func 146) #[] #[.pointer (some ⟨bt, 0, none⟩)]) m w ∧ w.heap[bt]? = some (.cells #[f] TT (0, 0))
theorem AskSay.kb {prompt : ByteArray} {f : Value} {m : Ma} {w w' : World} (h : AskSay prompt f m w) (k : Kb w w') : AskSay prompt f m w' := by
  obtain ⟨bt, h1, h2⟩ := h
  exact ⟨bt, h1.kb k, k.get h2⟩
set_option maxRecDepth 100000 in
set_option maxHeartbeats 4000000 in
theorem asked1_any {w : World} {p : Nat} {m : Ma} (h : M w p m) (ho : m.over = false) {prompt : ByteArray} (hp : prompt.toList.isEmpty = false) {f : Value} {bp bt : Nat} (h1 : w.heap[bp]? = some (.cells #[.string prompt] 9 (0, 0))) (h2 : w.heap[bt]? = some (.cells #[f] TT (0, 0))) (r : An) :
    Calls Tryz.prog 145 #[.pointer (some ⟨p, 0, none⟩), .agg r.cells, .pointer (some ⟨bp, 0, none⟩), .pointer (some ⟨bt, 0, none⟩)] w (ThP p w (Kst m (AskSay prompt f))) := by
  have hmf : ∀ (fn : Fn) (first cap : Array Value) (w : World), (Instr.makeFunc fn first cap).run Tryz.prog w = .ok (.func fn first cap) w := fun _ _ _ _ => rfl
  obtain ⟨C, hC⟩ : ∃ C, r.cells = C := ⟨_, rfl⟩
  rw [hC]
  obtain ⟨W, hW, _, hb, _⟩ := boxes1 w C 35
  have k := Kb.below hb
  have x0 : W.cell? ⟨bp, 0, none⟩ = some (.string prompt) := cell_of (k.get h1) 0
  have HM := Lib.hid (h.below hb)
  have HO := Lib.hid ho
  have HT := Lib.hid (k.get h2)
  have HP := Lib.hid hp
  have HMO := Lib.hid (Mo.of (b := p) hb)
  clear h ho h1 h2 hb hC k hp
  go_enter Tryz.func145, Tryz.ntmps145
  go_wp2_with fail
  refine (say_st HM.out HO.out 1 prompt HP.out _ _ _).mono ?_
  intro e w2 h
  obtain rfl := h.end
  have H := Lib.hid ((h.more HM.out (R1 := Kst m (AskSay prompt f)) fun m' w' k hh => ⟨hh.1, _, hh.2, k.get HT.out⟩).pre HMO.out)
  clear h
  go_wp2
  exact bodyPost_end (results_none rfl _ _ _) rfl H.out
/-- A machine that reads a password. -/
def AskRd (f : Value) (m : Ma) (w : World) : Prop := m.over = false ∧ m.c = { op := 4, n := 257, line := true } ∧ ∃ bt, m.th = .func (.func 147) #[] #[.pointer (some ⟨bt, 0, none⟩)] ∧ w.heap[bt]? = some (.cells #[f] TT (0, 0))
theorem AskRd.kb {f : Value} {m : Ma} {w w' : World} (h : AskRd f m w) (k : Kb w w') : AskRd f m w' := by
  obtain ⟨h0, h1, bt, h2, h3⟩ := h
  exact ⟨h0, h1, bt, h2, k.get h3⟩
set_option maxRecDepth 100000 in
set_option maxHeartbeats 4000000 in
theorem asked2_any {w : World} {p : Nat} {m : Ma} (h : M w p m) (ho : m.over = false) {f : Value} {bt : Nat} (h2 : w.heap[bt]? = some (.cells #[f] TT (0, 0))) :
    Calls Tryz.prog 146 #[.pointer (some ⟨p, 0, none⟩), .pointer (some ⟨bt, 0, none⟩)] w (ThP p w (Kst m (AskRd f))) := by
  have hmf : ∀ (fn : Fn) (first cap : Array Value) (w : World), (Instr.makeFunc fn first cap).run Tryz.prog w = .ok (.func fn first cap) w := fun _ _ _ _ => rfl
  have HH := Lib.hid h
  have HO := Lib.hid ho
  have HT := Lib.hid h2
  clear h ho h2
  go_enter Tryz.func146, Tryz.ntmps146
  go_wp2_with fail
  refine reads_any.mono ?_
  rintro e w1 ⟨rfl, hb⟩
  have HM := Lib.hid (HH.out.below hb)
  have HMO := Lib.hid ((Mo.refl p w).below hb)
  have HT1 := Lib.hid ((Kb.below hb).get HT.out)
  clear hb HH HT
  go_wp2_with fail
  refine (sys_any HM.out { op := 4, n := 257, line := true } _ _ _ rfl rfl).mono ?_
  rintro e w2 ⟨rfl, h1, h2⟩
  have H : Hid (ThP p w (Kst m (AskRd f)) (.returned (.tuple #[])) w2) := Lib.hid (ThP.sys h1 HO.out rfl rfl (HMO.out.trans h2) ⟨rfl, HO.out, rfl, _, rfl, (Kb.mo HM.out h2).get HT1.out⟩)
  clear h1 h2
  go_wp2
  exact bodyPost_end (results_none rfl _ _ _) rfl H.out
/-- What was typed, of an answer. -/
noncomputable def typedS (r : An) : ByteArray := if r.err = 0 then ⟨(Lib.trimSuffix r.text.data.toList [10]).toArray⟩ else ⟨#[]⟩
/-- A machine that puts the echo on again. -/
def AskEc (typed : ByteArray) (f : Value) (m : Ma) (w : World) : Prop := m.over = false ∧ m.c = { op := 24, line := true } ∧ ∃ b bt by', m.th = .func (.func 157) #[] #[.pointer (some ⟨b, 0, none⟩)] ∧ w.heap[b]? = some (.cells #[.func (.func 148) #[] #[.pointer (some ⟨bt, 0, none⟩), .pointer (some ⟨by', 0, none⟩)]] KT (0, 0)) ∧ w.heap[bt]? = some (.cells #[f] TT (0, 0)) ∧ w.heap[by']? = some (.cells #[.string typed] 9 (0, 0))
theorem AskEc.kb {typed : ByteArray} {f : Value} {m : Ma} {w w' : World} (h : AskEc typed f m w) (k : Kb w w') : AskEc typed f m w' := by
  obtain ⟨h0, h1, b, bt, by', h2, h3, h4, h5⟩ := h
  exact ⟨h0, h1, b, bt, by', h2, k.get h3, k.get h4, k.get h5⟩
set_option maxRecDepth 100000 in
set_option maxHeartbeats 4000000 in
theorem asked3_any {w : World} {p : Nat} {m : Ma} (h : M w p m) (ho : m.over = false) {f : Value} {bt : Nat} (h2 : w.heap[bt]? = some (.cells #[f] TT (0, 0))) (r : An) (hz : r.text.size ≤ 9223372036854775807) :
    Calls Tryz.prog 147 #[.pointer (some ⟨p, 0, none⟩), .agg r.cells, .pointer (some ⟨bt, 0, none⟩)] w (ThP p w (Kst m (AskEc (typedS r) f))) := by
  have hmf : ∀ (fn : Fn) (first cap : Array Value) (w : World), (Instr.makeFunc fn first cap).run Tryz.prog w = .ok (.func fn first cap) w := fun _ _ _ _ => rfl
  obtain ⟨C, hC⟩ : ∃ C, r.cells = C := ⟨_, rfl⟩
  have h0 : C[0]? = some (.int .i64 r.err) := by rw [← hC]; rfl
  have h3 : C[3]? = some (.string r.text) := by rw [← hC]; rfl
  rw [hC]
  unfold typedS
  generalize r.err = er at *
  generalize r.text = tx at *
  obtain ⟨V, hV, ha0, hc0, hb0, hsz⟩ := boxes2 w C #[.string ⟨#[]⟩] 35 9
  have v1 : V.cell? ⟨w.heap.size + 1, 0, none⟩ = some (.string ⟨#[]⟩) := cell_of hc0 0
  have u1 := frozen_of hc0 0
  have hb : Below w.heap.size w (V.setCell ⟨w.heap.size + 1, 0, none⟩ (.string ⟨#[]⟩)) := hb0.setCell (Nat.le_succ _) _
  have hc : (V.setCell ⟨w.heap.size + 1, 0, none⟩ (.string ⟨#[]⟩)).heap[w.heap.size + 1]? = some (.cells #[.string ⟨#[]⟩] 9 (0, 0)) := heap_setCell_same hc0 _
  have ha : (V.setCell ⟨w.heap.size + 1, 0, none⟩ (.string ⟨#[]⟩)).heap[w.heap.size]? = some (.cells C 35 (0, 0)) := (Below.heap_setCell _ _ _ _ (fun e => by have e' : w.heap.size = w.heap.size + 1 := e; omega)).trans ha0
  obtain ⟨W, hW⟩ : ∃ W, V.setCell ⟨w.heap.size + 1, 0, none⟩ (.string ⟨#[]⟩) = W := ⟨_, rfl⟩
  rw [hW] at hb hc ha
  have k := Kb.below hb
  have x0 : W.cell? ⟨w.heap.size, 0, none⟩ = some (.int .i64 er) := (cell_of ha 0).trans h0
  have x3 : W.cell? ⟨w.heap.size, 3, none⟩ = some (.string tx) := (cell_of ha 3).trans h3
  have hlt := h.lt
  have hM := h.below hb
  have hmo := Mo.of (b := p) hb
  have ht := k.get h2
  have HO := Lib.hid ho
  have htl := lt_of_heap h2
  clear ha0 hc0 hb0
  by_cases he : er = 0
  · subst he
    rw [if_pos rfl]
    have HX := Lib.hid (Tryz.strings_TrimSuffix tx ⟨#[10]⟩ W hz)
    obtain ⟨ty, hty⟩ : ∃ ty : ByteArray, (⟨(Lib.trimSuffix tx.data.toList [10]).toArray⟩ : ByteArray) = ty := ⟨_, rfl⟩
    have HN : Hid ((⟨(Lib.trimSuffix tx.data.toList (⟨#[10]⟩ : ByteArray).data.toList).toArray⟩ : ByteArray) = ty) := Lib.hid hty
    rw [hty]
    have y1 : W.cell? ⟨w.heap.size + 1, 0, none⟩ = some (.string ⟨#[]⟩) := cell_of hc 0
    have z1 := frozen_of hc 0
    have hM1 : M (W.setCell ⟨w.heap.size + 1, 0, none⟩ (.string ty)) p m := (Below.heap_setCell _ _ _ _ (fun e => by have e' : p = w.heap.size + 1 := e; omega)).trans hM
    have ht1 : (W.setCell ⟨w.heap.size + 1, 0, none⟩ (.string ty)).heap[bt]? = some (.cells #[f] TT (0, 0)) := (Below.heap_setCell _ _ _ _ (fun e => by have e' : bt = w.heap.size + 1 := e; omega)).trans ht
    have hy1 : (W.setCell ⟨w.heap.size + 1, 0, none⟩ (.string ty)).heap[w.heap.size + 1]? = some (.cells #[.string ty] 9 (0, 0)) := heap_setCell_same hc _
    have hmo1 : Mo p w (W.setCell ⟨w.heap.size + 1, 0, none⟩ (.string ty)) := Mo.of (hb.setCell (Nat.le_succ _) _)
    have HM1 := Lib.hid hM1
    have HT1 := Lib.hid ht1
    have HY1 := Lib.hid hy1
    have HMO1 := Lib.hid hmo1
    obtain ⟨W1, hW1⟩ : ∃ W1, W.setCell ⟨w.heap.size + 1, 0, none⟩ (.string ty) = W1 := ⟨_, rfl⟩
    rw [hW1] at HM1 HT1 HY1 HMO1
    clear h ho h2 hb hC k h0 h3 ha hc hM hmo ht hM1 ht1 hy1 hmo1 hz hlt htl hty hsz
    go_enter Tryz.func147, Tryz.ntmps147
    go_wp2_with fail
    refine HX.out.mono ?_
    rintro e w2 ⟨rfl, rfl⟩
    rw [HN.out]
    clear HX HN
    go_wp2_with fail
    refine (ignores_any _ _ _).mono ?_
    rintro e w3 ⟨rfl, rfl⟩
    obtain ⟨W3, hW3, hx3, hb3, _⟩ := boxes1 W1 #[.func (.func 148) #[] #[.pointer (some ⟨bt, 0, none⟩), .pointer (some ⟨w.heap.size + 1, 0, none⟩)]] KT
    rw [hW3]
    have k3 := Kb.below hb3
    have HM3 := Lib.hid (HM1.out.below hb3)
    have HB3 := Lib.hid hx3
    have HT3 := Lib.hid (k3.get HT1.out)
    have HY3 := Lib.hid (k3.get HY1.out)
    have HMO3 := Lib.hid (HMO1.out.below hb3)
    clear hx3 hb3 k3 HM1 HT1 HY1 HMO1 hW3 hW1 hW hV x0 x3 y1 z1
    go_wp2_with fail
    refine (sys_any HM3.out { op := 24, line := true } _ _ _ rfl rfl).mono ?_
    rintro e w4 ⟨rfl, h1, h2⟩
    have hk := Kb.mo HM3.out h2
    have H : Hid (ThP p w (Kst m (AskEc ty f)) (.returned (.tuple #[])) w4) := Lib.hid (ThP.sys h1 HO.out rfl rfl (HMO3.out.trans h2) ⟨rfl, HO.out, rfl, _, _, _, rfl, hk.get HB3.out, hk.get HT3.out, hk.get HY3.out⟩)
    clear h1 h2 hk
    go_wp2
    exact bodyPost_end (results_none rfl _ _ _) rfl H.out
  · rw [if_neg he]
    have HM1 := Lib.hid hM
    have HT1 := Lib.hid ht
    have HY1 := Lib.hid hc
    have HMO1 := Lib.hid hmo
    clear h ho h2 hb hC k h0 h3 ha hc hM hmo ht hz hlt htl hsz
    go_enter Tryz.func147, Tryz.ntmps147
    go_wp2_with fail
    refine (ignores_any _ _ _).mono ?_
    rintro e w3 ⟨rfl, rfl⟩
    obtain ⟨W3, hW3, hx3, hb3, _⟩ := boxes1 W #[.func (.func 148) #[] #[.pointer (some ⟨bt, 0, none⟩), .pointer (some ⟨w.heap.size + 1, 0, none⟩)]] KT
    rw [hW3]
    have k3 := Kb.below hb3
    have HM3 := Lib.hid (HM1.out.below hb3)
    have HB3 := Lib.hid hx3
    have HT3 := Lib.hid (k3.get HT1.out)
    have HY3 := Lib.hid (k3.get HY1.out)
    have HMO3 := Lib.hid (HMO1.out.below hb3)
    clear hx3 hb3 k3 HM1 HT1 HY1 HMO1 hW3 hW hV x0 x3 he
    go_wp2_with fail
    refine (sys_any HM3.out { op := 24, line := true } _ _ _ rfl rfl).mono ?_
    rintro e w4 ⟨rfl, h1, h2⟩
    have hk := Kb.mo HM3.out h2
    have H : Hid (ThP p w (Kst m (AskEc ⟨#[]⟩ f)) (.returned (.tuple #[])) w4) := Lib.hid (ThP.sys h1 HO.out rfl rfl (HMO3.out.trans h2) ⟨rfl, HO.out, rfl, _, _, _, rfl, hk.get HB3.out, hk.get HT3.out, hk.get HY3.out⟩)
    clear h1 h2 hk
    go_wp2
    exact bodyPost_end (results_none rfl _ _ _) rfl H.out
set_option maxRecDepth 100000 in
set_option maxHeartbeats 4000000 in
theorem asked4_any {w : World} {p : Nat} {k : FuncId} {ca : Array Value} {typed : ByteArray} {bt by' : Nat} (h1 : w.heap[bt]? = some (.cells #[.func (.func k) #[] ca] TT (0, 0))) (h2 : w.heap[by']? = some (.cells #[.string typed] 9 (0, 0)))
    (hen : ∀ (args : Array Value) (w : World), (callFunc k args).run Tryz.prog w = .ok (.enter k args) w) {R : Ma → World → Prop} (hk : Calls Tryz.prog k (#[.pointer (some ⟨p, 0, none⟩), .string typed] ++ ca) w (ThP p w R)) :
    Calls Tryz.prog 148 #[.pointer (some ⟨p, 0, none⟩), .pointer (some ⟨bt, 0, none⟩), .pointer (some ⟨by', 0, none⟩)] w (ThP p w R) := by
  have x0 : w.cell? ⟨bt, 0, none⟩ = some (.func (.func k) #[] ca) := cell_of h1 0
  have x1 : w.cell? ⟨by', 0, none⟩ = some (.string typed) := cell_of h2 0
  have HK := Lib.hid hk
  clear h1 h2 hk
  go_enter Tryz.func148, Tryz.ntmps148
  go_wp2_with fail
  refine HK.out.mono ?_
  intro e w1 h
  obtain rfl := h.end
  have H := Lib.hid h
  clear h
  go_wp2
  exact bodyPost_end (results_none rfl _ _ _) rfl H.out
end Go.Proofs.YtlhlehdajkoogaaGreatDoor
/- What follows, by what it leads to; the way through asks. -/
namespace Go.Proofs.YtlhlehdajkoogaaGreatDoor
open Go.RowKit

abbrev Enters (k : FuncId) : Prop := ∀ (args : Array Value) (w : World), (callFunc k args).run Tryz.prog w = .ok (.enter k args) w
abbrev St := ByteArray × Value × Bool × Int
/-- All rows lie as they lay, but those that hold a call, machines, and the answer that is block q. -/
def Kr (q : Nat) (w w' : World) : Prop := ∀ (b : Nat) (C : Array Value) (T : TypeId), T ≠ 39 → T ≠ MT → (T = 35 → b ≠ q) → w.heap[b]? = some (.cells C T (0, 0)) → w'.heap[b]? = some (.cells C T (0, 0))
theorem Kb.kr {w w' : World} (k : Kb w w') (q : Nat) : Kr q w w' := fun b C T h1 h2 _ h => k b C T h1 h2 h
theorem Kr.refl (q : Nat) (w : World) : Kr q w w := fun _ _ _ _ _ _ h => h
theorem Kr.trans {q : Nat} {a b c : World} (h : Kr q a b) (k : Kr q b c) : Kr q a c := fun x C T h1 h2 h3 h4 => k x C T h1 h2 h3 (h x C T h1 h2 h3 h4)
theorem Kr.get {q : Nat} {w w' : World} (k : Kr q w w') {b : Nat} {C : Array Value} {T : TypeId} (h : w.heap[b]? = some (.cells C T (0, 0))) (h1 : T ≠ 39 := by decide) (h2 : T ≠ MT := by decide) (h3 : T ≠ 35 := by decide) : w'.heap[b]? = some (.cells C T (0, 0)) := k _ _ _ h1 h2 (fun e => absurd e h3) h
theorem SayS.kr {q : Nat} {fd : Int} {text : ByteArray} {f : Value} {m : Ma} {w w' : World} (h : SayS fd text f m w) (k : Kr q w w') : SayS fd text f m w' := by
  obtain ⟨b1, b2, b3, h1, h2, h3, h4⟩ := h.th
  exact ⟨h.over, h.c, b1, b2, b3, h1, k.get h2, k.get h3, k.get h4⟩
theorem MustS.kr {q : Nat} {c : Ca} {why t : Value} {m : Ma} {w w' : World} (h : MustS c why t m w) (k : Kr q w w') : MustS c why t m w' := by
  obtain ⟨b1, b2, h1, h2, h3⟩ := h.th
  exact ⟨h.over, h.c, b1, b2, h1, k.get h2, k.get h3⟩
theorem Slp.kr {q : Nat} {fd : Int} {s : ByteArray} {f : Value} {w w' : World} {bf bs bt : Nat} (h : Slp fd s f w bf bs bt) (k : Kr q w w') : Slp fd s f w' bf bs bt := ⟨k.get h.fd, k.get h.s, k.get h.t⟩
theorem SlurpS.kr {q : Nat} {fd : Int} {s : ByteArray} {f : Value} {m : Ma} {w w' : World} (h : SlurpS fd s f m w) (k : Kr q w w') : SlurpS fd s f m w' := by
  obtain ⟨bd, bf, bs, bt, h1, h2, h3⟩ := h.th
  exact ⟨h.over, h.c, bd, bf, bs, bt, h1, k.get h2, h3.kr k⟩
theorem ClosS.kr {q : Nat} {fd : Int} {s : ByteArray} {f : Value} {m : Ma} {w w' : World} (h : ClosS fd s f m w) (k : Kr q w w') : ClosS fd s f m w' := by
  obtain ⟨bf, bs, bt, h1, h3⟩ := h.th
  exact ⟨h.over, h.c, bf, bs, bt, h1, h3.kr k⟩
theorem AskS.kr {q : Nat} {prompt : ByteArray} {f : Value} {m : Ma} {w w' : World} (h : AskS prompt f m w) (k : Kr q w w') : AskS prompt f m w' := by
  obtain ⟨b, bp, bt, h1, h2, h3, h4⟩ := h
  exact ⟨b, bp, bt, h1.kr k, k.get h2, k.get h3, k.get h4⟩
theorem AskSay.kr {q : Nat} {prompt : ByteArray} {f : Value} {m : Ma} {w w' : World} (h : AskSay prompt f m w) (k : Kr q w w') : AskSay prompt f m w' := by
  obtain ⟨bt, h1, h2⟩ := h
  exact ⟨bt, h1.kr k, k.get h2⟩
theorem AskRd.kr {q : Nat} {f : Value} {m : Ma} {w w' : World} (h : AskRd f m w) (k : Kr q w w') : AskRd f m w' := by
  obtain ⟨h0, h1, bt, h2, h3⟩ := h
  exact ⟨h0, h1, bt, h2, k.get h3⟩
theorem AskEc.kr {q : Nat} {typed : ByteArray} {f : Value} {m : Ma} {w w' : World} (h : AskEc typed f m w) (k : Kr q w w') : AskEc typed f m w' := by
  obtain ⟨h0, h1, b, bt, by', h2, h3, h4, h5⟩ := h
  exact ⟨h0, h1, b, bt, by', h2, k.get h3, k.get h4, k.get h5⟩
/-- Where a program runs: the world ahead of it, its machine, the block of the law's answer, what it holds. -/
structure Cx where
  w0 : World
  p : Nat
  q : Nat
  x : St
/-- A program that is on its way to its next call. -/
structure Gx (c : Cx) (w : World) (m : Ma) : Prop where
  mach : M w c.p m
  bel : Below c.w0.heap.size c.w0 w
  ge : c.w0.heap.size ≤ c.p
  over : m.over = false
  th : m.th = .nilFunc
  st : m.st = c.x
theorem Gx.below {c : Cx} {w w' : World} {m : Ma} (h : Gx c w m) (hb : Below w.heap.size w w') : Gx c w' m := ⟨h.mach.below hb, h.bel.trans (hb.mono h.bel.size), h.ge, h.over, h.th, h.st⟩
/-- A program that told a call. -/
structure Run (c : Cx) (l : Nat) (w : World) (m : Ma) : Prop where
  lies : L w l c.p
  mach : M w c.p m
  bel : Below c.w0.heap.size c.w0 w
  ge : c.w0.heap.size ≤ c.p
  st : m.st = c.x
/-- A function value that goes on to R. -/
def Kt (c : Cx) (R : Ma → World → Prop) (f : Value) (w : World) : Prop :=
  ∃ k ca, f = .func (.func k) #[] ca ∧ Enters k ∧ ∀ w1 m, Kr c.q w w1 → Gx c w1 m → Calls Tryz.prog k (#[.pointer (some ⟨c.p, 0, none⟩)] ++ ca) w1 (ThP c.p w1 (Kst m R))
theorem Kt.kr {c : Cx} {R : Ma → World → Prop} {f : Value} {w w' : World} (h : Kt c R f w) (k : Kr c.q w w') : Kt c R f w' := by
  obtain ⟨fn, ca, h1, h2, h3⟩ := h
  exact ⟨fn, ca, h1, h2, fun w1 m k1 => h3 w1 m (k.trans k1)⟩
/-- A function value that goes on to R with a text. -/
def Tt (c : Cx) (R : ByteArray → Ma → World → Prop) (f : Value) (w : World) : Prop :=
  ∃ k ca, f = .func (.func k) #[] ca ∧ Enters k ∧ ∀ w1 m ty, ty.size ≤ 2000 → Kr c.q w w1 → Gx c w1 m → Calls Tryz.prog k (#[.pointer (some ⟨c.p, 0, none⟩), .string ty] ++ ca) w1 (ThP c.p w1 (Kst m (R ty)))
theorem Tt.kr {c : Cx} {R : ByteArray → Ma → World → Prop} {f : Value} {w w' : World} (h : Tt c R f w) (k : Kr c.q w w') : Tt c R f w' := by
  obtain ⟨fn, ca, h1, h2, h3⟩ := h
  exact ⟨fn, ca, h1, h2, fun w1 m ty ht k1 => h3 w1 m ty ht (k.trans k1)⟩
theorem go_next {c : Cx} {w : World} {l : Nat} {m : Ma} {k : FuncId} {ca : Array Value} (hr : Run c l w m) (ho : m.over = false) (hth : m.th = .func (.func k) #[] ca) (r : An) {R : Ma → World → Prop} (hR : ∀ m' w1 w2, Kb w1 w2 → R m' w1 → R m' w2) (hen : Enters k)
    (hk : ∀ w1, Kb w w1 → Gx c w1 { m with th := .nilFunc } → Calls Tryz.prog k (#[.pointer (some ⟨c.p, 0, none⟩), .agg r.cells] ++ ca) w1 (ThP c.p w1 (Kst { m with th := .nilFunc } R))) :
    Calls Tryz.prog 14 #[.pointer (some ⟨l, 0, none⟩), .agg r.cells] w (NextP c.p w (Kst m R)) := by
  refine lnext_any hr.lies hr.mach r (fun m' w1 w2 k hh => ⟨hh.1, hR _ _ _ k hh.2⟩) fun w1 h1 k1 s1 => ?_
  refine then_any h1 ho hth r (fun m' w1 w2 k hh => ⟨hh.1, hR _ _ _ k hh.2⟩) hen fun w2 h2 k2 s2 => ?_
  exact hk w2 (k1.trans k2) ⟨h2, Mo.bel hr.bel (s1.trans s2) hr.ge (Nat.le_refl _), hr.ge, ho, rfl, hr.st⟩
theorem en_must1 : Enters 133 := enter_of Tryz.func133 (by kernel_rfl) rfl
theorem en_asks1 : Enters 145 := enter_of Tryz.func145 (by kernel_rfl) rfl
theorem en_asks2 : Enters 146 := enter_of Tryz.func146 (by kernel_rfl) rfl
theorem en_asks3 : Enters 147 := enter_of Tryz.func147 (by kernel_rfl) rfl
theorem en_asks4 : Enters 148 := enter_of Tryz.func148 (by kernel_rfl) rfl
theorem en_ignores1 : Enters 157 := enter_of Tryz.func157 (by kernel_rfl) rfl
theorem en_fails2 : Enters 137 := enter_of Tryz.func137 (by kernel_rfl) rfl
theorem EndS.kb {n : Int} {m : Ma} {w w' : World} (h : EndS n m w) : EndS n m w' := ⟨h.over, h.c⟩
theorem kt_end (c : Cx) (w : World) : Kt c (EndS 1) (.func (.func 137) #[] #[]) w :=
  ⟨_, _, rfl, en_fails2, fun _ _ _ g => ended_any g.mach g.th⟩
/-- What was said is followed by what goes on. -/
theorem say_n {c : Cx} {w : World} {l : Nat} {m : Ma} {fd : Int} {text : ByteArray} {f : Value} (hr : Run c l w m) (hs : SayS fd text f m w) {R : Ma → World → Prop} (hR : ∀ m' w1 w2, Kb w1 w2 → R m' w1 → R m' w2) (hf : Kt c R f w) (r : An) (he : r.err = 0) (hn : 1 ≤ r.n) (ht : (text.size : Int) ≤ r.n) :
    Calls Tryz.prog 14 #[.pointer (some ⟨l, 0, none⟩), .agg r.cells] w (NextP c.p w (Kst m R)) := by
  obtain ⟨b1, b2, b3, e1, e2, e3, e4⟩ := hs.th
  obtain ⟨k, ca, rfl, he1, hk⟩ := hf
  refine go_next hr hs.over e1 r hR en_say fun w1 k1 g => ?_
  exact said_any (k1.get e2) (k1.get e3) r he hn ht he1 fun w2 hb => hk w2 _ ((k1.trans (Kb.below hb)).kr _) (g.below hb)
theorem ask1_n {c : Cx} {w : World} {l : Nat} {m : Ma} {prompt : ByteArray} {f : Value} (hr : Run c l w m) (hs : AskS prompt f m w) (hp : prompt.toList.isEmpty = false) (r : An) (he : r.err = 0) :
    Calls Tryz.prog 14 #[.pointer (some ⟨l, 0, none⟩), .agg r.cells] w (NextP c.p w (Kst m (AskSay prompt f))) := by
  obtain ⟨b, bp, bt, hm, h1, h2, h3⟩ := hs
  obtain ⟨b1, b2, e1, e2, e3⟩ := hm.th
  refine go_next hr hm.over e1 r (fun m' w1 w2 k hh => hh.kb k) en_must1 fun w1 k1 g => ?_
  refine musted_any (k1.get e3) r he en_asks1 fun w2 hb => ?_
  have k2 := k1.trans (Kb.below hb)
  exact asked1_any (g.mach.below hb) hm.over hp (k2.get h2) (k2.get h3) r
theorem ask2_n {c : Cx} {w : World} {l : Nat} {m : Ma} {prompt : ByteArray} {f : Value} (hr : Run c l w m) (hs : AskSay prompt f m w) (r : An) (he : r.err = 0) (hn : 1 ≤ r.n) (ht : (prompt.size : Int) ≤ r.n) :
    Calls Tryz.prog 14 #[.pointer (some ⟨l, 0, none⟩), .agg r.cells] w (NextP c.p w (Kst m (AskRd f))) := by
  obtain ⟨bt, hm, h1⟩ := hs
  exact say_n hr hm (fun m' w1 w2 k hh => hh.kb k) ⟨_, _, rfl, en_asks2, fun w1 m1 k1 g => asked2_any g.mach g.over (k1.get h1)⟩ r he hn ht
theorem ask3_n {c : Cx} {w : World} {l : Nat} {m : Ma} {f : Value} (hr : Run c l w m) (hs : AskRd f m w) (r : An) (hz : r.text.size ≤ 9223372036854775807) :
    Calls Tryz.prog 14 #[.pointer (some ⟨l, 0, none⟩), .agg r.cells] w (NextP c.p w (Kst m (AskEc (typedS r) f))) := by
  obtain ⟨ho, _, bt, h1, h2⟩ := hs
  exact go_next hr ho h1 r (fun m' w1 w2 k hh => hh.kb k) en_asks3 fun w1 k1 g => asked3_any g.mach ho (k1.get h2) r hz
theorem ask4_n {c : Cx} {w : World} {l : Nat} {m : Ma} {ty : ByteArray} {f : Value} (hr : Run c l w m) (hs : AskEc ty f m w) {R : ByteArray → Ma → World → Prop} (hR : ∀ m' w1 w2, Kb w1 w2 → R ty m' w1 → R ty m' w2) (hf : Tt c R f w) (hz : ty.size ≤ 2000) (r : An) :
    Calls Tryz.prog 14 #[.pointer (some ⟨l, 0, none⟩), .agg r.cells] w (NextP c.p w (Kst m (R ty))) := by
  obtain ⟨ho, _, b, bt, by', h1, h2, h3, h4⟩ := hs
  obtain ⟨k, ca, rfl, he1, hk⟩ := hf
  refine go_next hr ho h1 r hR en_ignores1 fun w1 k1 g => ?_
  refine ignored_any (k1.get h2) r en_asks4 fun w2 hb => ?_
  have k2 := k1.trans (Kb.below hb)
  exact asked4_any (k2.get h3) (k2.get h4) he1 (hk w2 _ ty hz (k2.kr _) (g.below hb))
end Go.Proofs.YtlhlehdajkoogaaGreatDoor
/- Paths as lists of bytes: what stands between the strokes. No program in sight. -/
namespace Go.Proofs.Pw.Pp

abbrev Bytes := List UInt8

def partsA : Bytes → Bytes → List Bytes
  | [], acc => if acc = [] then [] else [acc.reverse]
  | c :: l, acc => if c = 47 then (if acc = [] then partsA l [] else acc.reverse :: partsA l []) else partsA l (c :: acc)
/-- What stands between the strokes. -/
def parts (l : Bytes) : List Bytes := partsA l []

theorem partsA_run : ∀ (a r acc : Bytes), (47 : UInt8) ∉ a → partsA (a ++ r) acc = partsA r (a.reverse ++ acc)
  | [], _, _, _ => rfl
  | c :: a, r, acc, h => by
    have hc : c ≠ 47 := fun e => h (by simp [e])
    have ha : (47 : UInt8) ∉ a := fun e => h (by simp [e])
    simp only [List.cons_append, partsA, hc, if_false]
    rw [partsA_run a r (c :: acc) ha]
    simp
theorem parts_cut (a b : Bytes) (h : (47 : UInt8) ∉ a) : parts (a ++ 47 :: b) = (if a = [] then [] else [a]) ++ parts b := by
  unfold parts
  rw [partsA_run a _ [] h]
  by_cases e : a = [] <;> simp [partsA, e]
theorem parts_end (a : Bytes) (h : (47 : UInt8) ∉ a) : parts a = if a = [] then [] else [a] := by
  have := partsA_run a [] [] h
  rw [List.append_nil] at this
  unfold parts
  rw [this]
  by_cases e : a = [] <;> simp [partsA, e]
theorem parts_nil : parts [] = [] := rfl

/-- The index of a stroke cuts a text. -/
theorem stroke_at {l : Bytes} {i : Nat} (h : Lib.indexByte l 47 = i) : i < l.length ∧ (47 : UInt8) ∉ l.take i ∧ l = l.take i ++ 47 :: l.drop (i + 1) := by
  obtain ⟨h1, h2⟩ := Lib.indexByte_some h
  obtain ⟨hi, h3⟩ := List.getElem?_eq_some_iff.1 h1
  refine ⟨hi, fun hm => ?_, ?_⟩
  · obtain ⟨k, hk, he⟩ := List.getElem_of_mem hm
    rw [List.getElem_take] at he
    have hk' : k < i := by simp at hk; omega
    exact h2 k hk' (by rw [List.getElem?_eq_getElem (by omega), he])
  · conv => lhs; rw [← List.take_append_drop i l]
    rw [List.drop_eq_getElem_cons hi, h3]
theorem no_stroke {l : Bytes} (h : Lib.indexByte l 47 = -1) : (47 : UInt8) ∉ l := fun hm => by
  obtain ⟨k, hk, he⟩ := List.getElem_of_mem hm
  exact Lib.indexByte_none h k (by rw [List.getElem?_eq_getElem hk, he])

theorem ex_data (s : ByteArray) (a b : Nat) : (s.extract a b).data.toList = (s.data.toList.take b).drop a := by
  rw [ByteArray.data_extract, Array.toList_extract, List.extract_eq_take_drop, List.drop_take]
theorem sz (s : ByteArray) : s.data.toList.length = s.size := by simp
end Go.Proofs.Pw.Pp
namespace Go.Proofs.Pw.Pp
/-! ### Directory and last name -/
def IsTrim (s : ByteArray) (n : Nat) : Prop := n ≤ s.size ∧ (∀ j, n ≤ j → j < s.size → s.data[j]! = 47) ∧ (n = 0 ∨ s.data[n - 1]! ≠ 47)
def IsCut (s : ByteArray) (n i : Nat) : Prop := i ≤ n ∧ (∀ j, i ≤ j → j < n → s.data[j]! ≠ 47) ∧ (i = 0 ∨ s.data[i - 1]! = 47)
def bA (s : ByteArray) (n i : Nat) : ByteArray := if n = 0 then s else s.extract 0 i
def bB (s : ByteArray) (n i : Nat) : ByteArray := if n = 0 then ⟨#[]⟩ else s.extract i n

theorem trim_is (s : ByteArray) : ∃ n, IsTrim s n := by
  have h : ∀ k, k ≤ s.size → (∀ j, k ≤ j → j < s.size → s.data[j]! = 47) → ∃ n, IsTrim s n := by
    intro k
    induction k with
    | zero => exact fun h0 h1 => ⟨0, h0, h1, .inl rfl⟩
    | succ k ih =>
      intro h0 h1
      by_cases hc : s.data[k]! = 47
      · refine ih (by omega) (fun j hj hj2 => ?_)
        by_cases e : j = k
        · rw [e]; exact hc
        · exact h1 j (by omega) hj2
      · exact ⟨k + 1, h0, h1, .inr (by simpa using hc)⟩
  exact h s.size (Nat.le_refl _) (fun j h1 h2 => by omega)
theorem cut_is (s : ByteArray) (n : Nat) : ∃ i, IsCut s n i := by
  have h : ∀ k, k ≤ n → (∀ j, k ≤ j → j < n → s.data[j]! ≠ 47) → ∃ i, IsCut s n i := by
    intro k
    induction k with
    | zero => exact fun h0 h1 => ⟨0, h0, h1, .inl rfl⟩
    | succ k ih =>
      intro h0 h1
      by_cases hc : s.data[k]! = 47
      · exact ⟨k + 1, h0, h1, .inr (by simpa using hc)⟩
      · refine ih (by omega) (fun j hj hj2 => ?_)
        by_cases e : j = k
        · rw [e]; exact hc
        · exact h1 j (by omega) hj2
  exact h n (Nat.le_refl _) (fun j h1 h2 => by omega)

theorem data_get (s : ByteArray) (j : Nat) (h : j < s.size) : s.data[j]! = s[j] := by
  have h1 : j < s.data.size := h
  rw [getElem!_pos s.data j h1]; rfl
theorem toList_get (s : ByteArray) (j : Nat) (h : j < s.data.toList.length) : s.data.toList[j] = s.data[j]! := by
  have h1 : j < s.data.size := by simpa using h
  rw [getElem!_pos s.data j h1]; simp
theorem dropWhile_rev (p : UInt8 → Bool) : ∀ (n : Nat) (l : List UInt8), n ≤ l.length → (∀ j (h : j < l.length), n ≤ j → p l[j] = true) → (n = 0 ∨ ∃ h : n - 1 < l.length, p l[n - 1] = false) → (l.reverse.dropWhile p).reverse = l.take n := by
  intro n l hn h1 h2
  have hd : l = l.take n ++ l.drop n := (List.take_append_drop n l).symm
  have hall : ∀ x ∈ (l.drop n).reverse, p x = true := by
    intro x hx
    obtain ⟨k, hk, he⟩ := List.getElem_of_mem (List.mem_reverse.1 hx)
    rw [List.getElem_drop] at he
    rw [← he]; exact h1 _ _ (by omega)
  have hrev : l.reverse = (l.drop n).reverse ++ (l.take n).reverse := by
    conv => lhs; rw [hd]
    rw [List.reverse_append]
  rw [hrev, List.dropWhile_append_of_pos hall]
  rcases h2 with h0 | ⟨hb, hp⟩
  · subst h0; simp
  · by_cases h0 : n = 0
    · subst h0; simp
    have ht : (l.take n).reverse = l[n - 1] :: (l.take (n - 1)).reverse := by
      obtain ⟨m, rfl⟩ : ∃ m, n = m + 1 := ⟨n - 1, by omega⟩
      simp only [Nat.add_sub_cancel]
      rw [List.take_succ_eq_append_getElem (by omega)]
      simp
    rw [ht, List.dropWhile_cons_of_neg (by simp [hp]), ← ht, List.reverse_reverse]
theorem trim_eq (s : ByteArray) (n : Nat) (h : IsTrim s n) : (⟨(Lib.trimRightB s.data.toList 47).toArray⟩ : ByteArray) = s.extract 0 n := by
  obtain ⟨h1, h2, h3⟩ := h
  have e : Lib.trimRightB s.data.toList 47 = s.data.toList.take n := by
    refine dropWhile_rev _ n _ (by rw [sz]; exact h1) (fun j hj hn => ?_) ?_
    · rw [toList_get]; simp [h2 j hn (by simpa using hj)]
    · by_cases h0 : n = 0
      · exact .inl h0
      · refine .inr ⟨by simp; omega, ?_⟩
        rw [toList_get]
        rcases h3 with h3 | h3
        · exact absurd h3 h0
        · simpa using h3
  apply ByteArray.ext
  apply Array.ext'
  rw [e, ex_data]; simp
theorem ex_get (s : ByteArray) (n j : Nat) (h : j < n) (hn : n ≤ s.size) : (s.extract 0 n).data[j]! = s.data[j]! := by
  have h1 : j < (s.extract 0 n).data.toList.length := by simp [ByteArray.data_extract]; have : n ≤ s.data.size := hn; omega
  have h2 : j < s.data.toList.length := by have : n ≤ s.data.size := hn; simp; omega
  have h3 : (s.extract 0 n).data.toList = s.data.toList.take n := by rw [ex_data]; simp
  rw [← toList_get _ _ h1, ← toList_get _ _ h2]
  simp only [h3, List.getElem_take]
theorem last_eq (s : ByteArray) (n i : Nat) (hn : n ≤ s.size) (h : IsCut s n i) : Lib.lastIndexByte (s.extract 0 n) 47 = (i : Int) - 1 := by
  obtain ⟨h1, h2, h3⟩ := h
  have hsz : (s.extract 0 n).size = n := by simp [ByteArray.size_extract]; omega
  rcases Lib.lastIndexByte_spec (s.extract 0 n) 47 with ⟨e, hno⟩ | ⟨k, hk, e, hc, hlater⟩
  · rw [e]
    rcases h3 with h3 | h3
    · subst h3; rfl
    · by_cases h0 : i = 0
      · subst h0; rfl
      · exfalso
        refine hno (i - 1) (by omega) ?_
        rw [ex_get _ _ _ (by omega) hn, h3]; rfl
  · rw [e]
    rw [hsz] at hk hlater
    rw [ex_get _ _ _ hk hn] at hc
    have hc' : s.data[k]! = 47 := UInt8.toNat_inj.1 (by have : ((s.data[k]!).toNat : Int) = ((47 : UInt8).toNat : Int) := hc; omega)
    have : k < i := by
      rcases Nat.lt_or_ge k i with h | h
      · exact h
      · exact absurd hc' (h2 k h hk)
    rcases h3 with h3 | h3
    · omega
    · have : ¬ k < i - 1 := fun hlt => by
        have := hlater (i - 1) hlt (by omega)
        rw [ex_get _ _ _ (by omega) hn, h3] at this
        exact this rfl
      omega
end Go.Proofs.Pw.Pp
namespace Go.Proofs.Pw.Pp
def okb (c : UInt8) : Bool := decide (32 ≤ c.toNat) && decide (c.toNat ≠ 127)
/-- What Split tells of a text: from the root; a directory's; the names; the error. -/
def splitS (b : Bytes) : Bool × Bool × List Bytes × Int :=
  if b = [] then (false, false, [], 3)
  else if 128 < b.length ∨ ∃ x ∈ parts b, 14 < x.length then (false, false, [], 10)
  else if b.all okb = false then (false, false, [], 1)
  else (Lib.hasPrefix b [47], Lib.hasSuffix b [47] || (((parts b).getLast?.getD [] == [46]) || ((parts b).getLast?.getD [] == [46, 46])), (parts b).filter (fun x => decide (¬ x = [46])), 0)
end Go.Proofs.Pw.Pp
/- Numbers in hexadecimal digits, and a password's field. No program in sight. -/
namespace Go.Proofs.Pw.Mx

abbrev Bytes := List UInt8

/-- The byte of a digit. -/
def dig (n : Nat) : UInt8 := UInt8.ofNat (if n < 10 then 48 + n else 87 + n)
/-- A number's digits, as many as it has. -/
def hexD (n : Nat) : Bytes := if n < 16 then [dig n] else hexD (n / 16) ++ [dig (n % 16)]
termination_by n
decreasing_by omega
/-- So many digits of a number. -/
def hexN : Nat → Nat → Bytes
  | 0, _ => []
  | k + 1, n => hexN k (n / 16) ++ [dig (n % 16)]
/-- A byte is a digit. -/
def isHex (c : UInt8) : Bool := (decide (48 ≤ c.toNat) && decide (c.toNat ≤ 57)) || (decide (97 ≤ c.toNat) && decide (c.toNat ≤ 102))
/-- A digit's number. -/
def val (c : UInt8) : Nat := if c.toNat ≤ 57 then c.toNat - 48 else c.toNat - 87
def readN (l : Bytes) : Nat := l.foldl (fun a c => 16 * a + val c) 0

theorem dig_toNat {n : Nat} (h : n < 16) : (dig n).toNat = if n < 10 then 48 + n else 87 + n := by
  unfold dig
  rw [UInt8.toNat_ofNat']
  split <;> omega
theorem dig_hex {n : Nat} (h : n < 16) : isHex (dig n) = true := by
  unfold isHex
  rw [dig_toNat h]
  split <;> simp <;> omega
theorem dig_val {n : Nat} (h : n < 16) : val (dig n) = n := by
  unfold val
  rw [dig_toNat h]
  split <;> split <;> omega
theorem val_lt {c : UInt8} (h : isHex c = true) : val c < 16 := by
  unfold isHex at h; unfold val
  simp at h
  split <;> omega
theorem val_dig {c : UInt8} (h : isHex c = true) : dig (val c) = c := by
  apply UInt8.toNat_inj.1
  rw [dig_toNat (val_lt h)]
  unfold isHex at h; unfold val
  simp at h
  split <;> split <;> omega

theorem hexN_len : ∀ k n, (hexN k n).length = k
  | 0, _ => rfl
  | k + 1, n => by simp [hexN, hexN_len k]
theorem hexN_zero : ∀ k, hexN k 0 = List.replicate k 48
  | 0 => rfl
  | k + 1 => by
    show hexN k (0 / 16) ++ [dig (0 % 16)] = _
    rw [Nat.zero_div, hexN_zero k, List.replicate_succ']
    rfl
theorem hexD_len_pos (n : Nat) : 0 < (hexD n).length := by
  unfold hexD
  split <;> simp
theorem hexD_pad : ∀ k n, 0 < k → n < 16 ^ k → (hexD n).length ≤ k ∧ List.replicate (k - (hexD n).length) 48 ++ hexD n = hexN k n
  | 0, _, h, _ => by omega
  | k + 1, n, _, h => by
    rw [hexD]
    by_cases h16 : n < 16
    · rw [if_pos h16]
      refine ⟨by simp, ?_⟩
      show _ = hexN k (n / 16) ++ [dig (n % 16)]
      rw [Nat.div_eq_of_lt h16, Nat.mod_eq_of_lt h16, hexN_zero]
      simp
    · rw [if_neg h16]
      have hk : 0 < k := by
        rcases Nat.eq_zero_or_pos k with rfl | h1
        · simp at h; omega
        · exact h1
      have h2 : n / 16 < 16 ^ k := by
        rw [Nat.div_lt_iff_lt_mul (by decide), ← Nat.pow_succ]; exact h
      obtain ⟨h3, h4⟩ := hexD_pad k (n / 16) hk h2
      refine ⟨by simp; omega, ?_⟩
      show _ = hexN k (n / 16) ++ [dig (n % 16)]
      rw [← h4, List.length_append, ← List.append_assoc]
      congr 2
      simp
theorem hexN_hex : ∀ k n, (hexN k n).all isHex = true
  | 0, _ => rfl
  | k + 1, n => by
    simp only [hexN, List.all_append, hexN_hex k, List.all_cons, dig_hex (Nat.mod_lt n (by decide : 0 < 16)), List.all_nil, Bool.and_self]
theorem readN_app (l : Bytes) (c : UInt8) : readN (l ++ [c]) = 16 * readN l + val c := by simp [readN, List.foldl_append]
theorem readN_hexN : ∀ k n, n < 16 ^ k → readN (hexN k n) = n
  | 0, n, h => by simp at h; subst h; rfl
  | k + 1, n, h => by
    have h2 : n / 16 < 16 ^ k := by
      rw [Nat.div_lt_iff_lt_mul (by decide), ← Nat.pow_succ]; exact h
    rw [hexN, readN_app, readN_hexN k _ h2, dig_val (Nat.mod_lt n (by decide))]
    omega
theorem rev_ind {P : Bytes → Prop} (h0 : P []) (h1 : ∀ l c, P l → P (l ++ [c])) (l : Bytes) : P l := by
  have h : ∀ r : Bytes, P r.reverse := by
    intro r
    induction r with
    | nil => exact h0
    | cons c r ih => rw [List.reverse_cons]; exact h1 _ _ ih
  have := h l.reverse
  rwa [List.reverse_reverse] at this
theorem readN_lt (l : Bytes) : l.all isHex = true → readN l < 16 ^ l.length := by
  refine rev_ind (P := fun l => l.all isHex = true → readN l < 16 ^ l.length) (fun _ => by decide) (fun l c ih h => ?_) l
  simp only [List.all_append, List.all_cons, List.all_nil, Bool.and_true, Bool.and_eq_true] at h
  have h1 := ih h.1
  have h2 := val_lt h.2
  rw [readN_app, List.length_append, List.length_singleton, Nat.pow_succ]
  omega
theorem hexN_readN (l : Bytes) : l.all isHex = true → hexN l.length (readN l) = l := by
  refine rev_ind (P := fun l => l.all isHex = true → hexN l.length (readN l) = l) (fun _ => rfl) (fun l c ih h => ?_) l
  simp only [List.all_append, List.all_cons, List.all_nil, Bool.and_true, Bool.and_eq_true] at h
  have h1 := ih h.1
  have h2 := val_lt h.2
  rw [readN_app, List.length_append, List.length_singleton, hexN, show (16 * readN l + val c) / 16 = readN l by omega, show (16 * readN l + val c) % 16 = val c by omega, h1, val_dig h.2]
theorem hexN_inj {k n m : Nat} (hn : n < 16 ^ k) (hm : m < 16 ^ k) (h : hexN k n = hexN k m) : n = m := by
  rw [← readN_hexN k n hn, h, readN_hexN k m hm]
theorem not_hex_dollar : isHex 36 = false := by decide

/-! ### A field -/
def fieldS (s m : Nat) : Bytes := hexN 4 s ++ 36 :: hexN 16 m
def isField (f : Bytes) : Prop := ∃ h t, f = h ++ 36 :: t ∧ h.length = 4 ∧ t.length = 16 ∧ h.all isHex = true ∧ t.all isHex = true
theorem fieldS_is (s m : Nat) : isField (fieldS s m) := ⟨_, _, rfl, hexN_len _ _, hexN_len _ _, hexN_hex _ _, hexN_hex _ _⟩
theorem fieldS_len (s m : Nat) : (fieldS s m).length = 21 := by simp [fieldS, hexN_len]
theorem fieldS_take (s m : Nat) : (fieldS s m).take 4 = hexN 4 s := by
  rw [fieldS, List.take_append_of_le_length (by rw [hexN_len]; omega), List.take_of_length_le (by rw [hexN_len]; omega)]
theorem fieldS_salt {s m : Nat} (hs : s < 65536) : readN ((fieldS s m).take 4) = s := by
  rw [fieldS_take, readN_hexN 4 s (by omega)]
theorem fieldS_inj {s m m' : Nat} (hm : m < 18446744073709551616) (hm' : m' < 18446744073709551616) : fieldS s m = fieldS s m' ↔ m = m' := by
  constructor
  · intro h
    have := List.append_cancel_left h
    simp only [List.cons.injEq, true_and] at this
    exact hexN_inj (k := 16) (by omega) (by omega) this
  · rintro rfl; rfl
end Go.Proofs.Pw.Mx
