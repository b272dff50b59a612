/- A program's machine, as it lies; its small steps: Sys, Exit. -/
import Derived.Test.YtlhlehdajkoogaaGreatDoorProg
import Derived.WalkKit
import Derived.ProofKit
import Derived.Carry
import Derived.Deep.CutRange
import Derived.Below
import Derived.Lib.Hide
import Derived.WalkLawsBesides
import Derived.WalkSpells
import Derived.Outline
import Derived.BigQuiet
import Derived.Deep.QuietTactic
import Derived.Deep.MidRow
import Derived.Laws.OwnMore
namespace Go.Proofs.YtlhlehdajkoogaaGreatDoor
open Go.RowKit

theorem cell_of {w : World} {b : Nat} {C : Array Value} {T : TypeId} {f : Nat × Nat} (h : w.heap[b]? = some (.cells C T f)) (i : Nat) : w.cell? ⟨b, i, none⟩ = C[i]? := by
  simp [World.cell?, h]
theorem frozen_of {w : World} {b : Nat} {C : Array Value} {T : TypeId} (h : w.heap[b]? = some (.cells C T (0, 0))) (i : Nat) : w.frozen? ⟨b, i, none⟩ = false := by
  simp [World.frozen?, h]
theorem lt_of_heap {w : World} {b : Nat} {o : Obj} (h : w.heap[b]? = some o) : b < w.heap.size := by
  obtain ⟨h1, _⟩ := Array.getElem?_eq_some_iff.1 h; exact h1
theorem alloc_heap (w : World) (o : Obj) : (w.alloc o).heap[w.heap.size]? = some o := by show (w.heap.push o)[w.heap.size]? = _; simp
theorem alloc_heap_old (w : World) (o : Obj) {b : Nat} (h : b < w.heap.size) : (w.alloc o).heap[b]? = w.heap[b]? := Below.heap_alloc _ _ _ h
theorem alloc_size (w : World) (o : Obj) : (w.alloc o).heap.size = w.heap.size + 1 := by show (w.heap.push o).size = _; simp
theorem heap_setCell_same {w : World} {b i : Nat} {C T f} (h : w.heap[b]? = some (.cells C T f)) (v : Value) : (w.setCell ⟨b, i, none⟩ v).heap[b]? = some (.cells (C.setIfInBounds i v) T f) := by
  simp [World.setCell, Array.getElem?_modify, h]
def putA : Array Value → Nat → List Value → Array Value
  | C, _, [] => C
  | C, o, v :: r => putA (C.setIfInBounds o v) (o + 1) r
theorem heap_setCells {R : Nat} {T : TypeId} {f : Nat × Nat} : ∀ (vs : List Value) (o : Nat) (C : Array Value) (W : World), W.heap[R]? = some (.cells C T f) → (W.setCells R o vs).heap[R]? = some (.cells (putA C o vs) T f)
  | [], _, _, _, h => h
  | v :: r, o, C, W, h => heap_setCells r (o + 1) _ _ (heap_setCell_same h v)
theorem setCells_size {R : Nat} : ∀ (vs : List Value) (o : Nat) (W : World), (W.setCells R o vs).heap.size = W.heap.size
  | [], _, _ => rfl
  | v :: r, o, W => by rw [World.setCells, setCells_size r]; simp [World.setCell]
theorem setCells_os {R : Nat} : ∀ (vs : List Value) (o : Nat) (W : World), (W.setCells R o vs).os = W.os ∧ (W.setCells R o vs).tape = W.tape ∧ (W.setCells R o vs).output = W.output
  | [], _, _ => ⟨rfl, rfl, rfl⟩
  | v :: r, o, W => by rw [World.setCells]; exact setCells_os r _ _
theorem heap_setCells_other {R b : Nat} (hb : b ≠ R) : ∀ (vs : List Value) (o : Nat) (W : World), (W.setCells R o vs).heap[b]? = W.heap[b]?
  | [], _, _ => rfl
  | v :: r, o, W => by rw [World.setCells, heap_setCells_other hb r, Below.heap_setCell _ _ _ _ hb]
theorem belowA {w W : World} (h : Below w.heap.size w W) (o : Obj) : Below w.heap.size w (W.alloc o) := h.alloc h.size o
theorem one_below {w w3 : World} {A : Array Value} {TA : TypeId} (hb : Below (w.alloc (.cells A TA)).heap.size (w.alloc (.cells A TA)) w3) : Below w.heap.size w w3 :=
  (belowA (Below.refl _ _) _).trans (hb.mono (by rw [alloc_size]; omega))
theorem belowDrewN {B : Nat} {a w : World} (h : Below B a w) (n : Nat) : Below B a (w.drewN n) := h.trans ⟨rfl, rfl, rfl, Nat.le_refl _, fun _ _ => rfl⟩
/-- New blocks, and block b alone is another one. -/
structure Mo (b : Nat) (w w' : World) : Prop where
  os : w'.os = w.os
  tape : w'.tape = w.tape
  output : w'.output = w.output
  size : w.heap.size ≤ w'.heap.size
  block : ∀ k, k < w.heap.size → k ≠ b → w'.heap[k]? = w.heap[k]?
theorem Mo.refl (b : Nat) (w : World) : Mo b w w := ⟨rfl, rfl, rfl, Nat.le_refl _, fun _ _ _ => rfl⟩
theorem Mo.trans {b : Nat} {a c d : World} (h : Mo b a c) (k : Mo b c d) : Mo b a d :=
  ⟨k.os.trans h.os, k.tape.trans h.tape, k.output.trans h.output, Nat.le_trans h.size k.size, fun i hi hb => (k.block i (Nat.lt_of_lt_of_le hi h.size) hb).trans (h.block i hi hb)⟩
theorem Mo.of {b : Nat} {w w' : World} (h : Below w.heap.size w w') : Mo b w w' := ⟨h.os, h.tape, h.output, h.size, fun k hk _ => h.block k hk⟩
theorem Mo.set {b i : Nat} {a w : World} (h : Mo b a w) (v : Value) : Mo b a (w.setCell ⟨b, i, none⟩ v) where
  os := h.os
  tape := h.tape
  output := h.output
  size := by rw [World.size_setCell]; exact h.size
  block := fun k hk hb => by rw [Below.heap_setCell _ _ _ _ hb]; exact h.block k hk hb
theorem Mo.alloc {b : Nat} {a w : World} (h : Mo b a w) (o : Obj) : Mo b a (w.alloc o) := h.trans (Mo.of ((Below.refl _ _).alloc (Nat.le_refl _) o))
theorem Mo.drew {b : Nat} {a w : World} (h : Mo b a w) : Mo b a w.drew := h.trans (Mo.of (Below.refl _ _).drew)
theorem Mo.drewN {b : Nat} {a w : World} (h : Mo b a w) (n : Nat) : Mo b a (w.drewN n) := h.trans (Mo.of (belowDrewN (Below.refl _ _) n))
theorem Mo.below {b : Nat} {a w w' : World} (h : Mo b a w) (k : Below w.heap.size w w') : Mo b a w' := h.trans (Mo.of k)
theorem Mo.setCells {b : Nat} {a w : World} (h : Mo b a w) (o : Nat) (vs : List Value) : Mo b a (w.setCells b o vs) where
  os := (setCells_os vs o w).1.trans h.os
  tape := (setCells_os vs o w).2.1.trans h.tape
  output := (setCells_os vs o w).2.2.trans h.output
  size := by rw [setCells_size]; exact h.size
  block := fun k hk hb => (heap_setCells_other hb _ _ _).trans (h.block k hk hb)

/-! ### calls, answers, the machine -/
/-- A call. -/
structure Ca where
  op : Int
  path : ByteArray := ⟨#[]⟩
  az : ByteArray := ⟨#[]⟩
  text : ByteArray := ⟨#[]⟩
  fd : Int := 0
  tz : Int := 0
  n : Int := 0
  mode : Int := 0
  owner : Int := 0
  group : Int := 0
  want : Int := 0
  make : Bool := false
  alone : Bool := false
  empty : Bool := false
  fin : Bool := false
  hmode : Int := 0
  line : Bool := false
  dir : Bool := false
  args : Value := .slice none 0 0
  env : Value := .slice none 0 0
def Ca.cells (c : Ca) : Array Value := #[.int .i64 c.op, .string c.path, .string c.az, .string c.text, .int .i64 c.fd, .int .i64 c.tz, .int .i64 c.n, .int .i64 c.mode, .int .i64 c.owner, .int .i64 c.group, .int .i64 c.want, .bool c.make, .bool c.alone, .bool c.empty, .bool c.fin, .int .i64 c.hmode, .bool c.line, .bool c.dir, c.args, c.env]
/-- An answer. -/
structure An where
  err : Int := 0
  n : Int := 0
  m : Int := 0
  text : ByteArray := ⟨#[]⟩
  names : Value := .slice none 0 0
  i0 : Int := 0
  i1 : Int := 0
  i2 : Int := 0
  i3 : Int := 0
  i4 : Int := 0
  i5 : Int := 0
  i6 : Int := 0
  i7 : Int := 0
  may : Int := 0
  real : Int := 0
  eff : Int := 0
  saved : Int := 0
  group : Int := 0
  egroup : Int := 0
def An.cells (r : An) : Array Value := #[.int .i64 r.err, .int .i64 r.n, .int .i64 r.m, .string r.text, r.names, .int .i64 r.i0, .int .i64 r.i1, .int .i64 r.i2, .int .i64 r.i3, .int .i64 r.i4, .int .i64 r.i5, .int .i64 r.i6, .int .i64 r.i7, .int .i64 r.may, .int .i64 r.real, .int .i64 r.eff, .int .i64 r.saved, .int .i64 r.group, .int .i64 r.egroup]
/-- What a machine holds. -/
structure Ma where
  prog : ByteArray
  gettys : Value := .slice none 0 0
  writes : Bool := false
  file : Int := 0
  todo : Value
  th : Value
  c : Ca
  over : Bool := false
def Ma.cells (m : Ma) : Array Value := #[.string m.prog, m.gettys, .bool m.writes, .int .i64 m.file, .int .i64 0, m.todo, m.th, .int .i64 m.c.op, .string m.c.path, .string m.c.az, .string m.c.text, .int .i64 m.c.fd, .int .i64 m.c.tz, .int .i64 m.c.n, .int .i64 m.c.mode, .int .i64 m.c.owner, .int .i64 m.c.group, .int .i64 m.c.want, .bool m.c.make, .bool m.c.alone, .bool m.c.empty, .bool m.c.fin, .int .i64 m.c.hmode, .bool m.c.line, .bool m.c.dir, m.c.args, m.c.env, .bool m.over]
abbrev MT : TypeId := 93
/-- A machine, as it lies. -/
def M (w : World) (p : Nat) (m : Ma) : Prop := w.heap[p]? = some (.cells m.cells MT (0, 0))
theorem M.below {w w' : World} {p : Nat} {m : Ma} (h : M w p m) (hb : Below w.heap.size w w') : M w' p m := (hb.block p (lt_of_heap h)).trans h
theorem M.lt {w : World} {p : Nat} {m : Ma} (h : M w p m) : p < w.heap.size := lt_of_heap h
theorem M.set {w : World} {p : Nat} {m : Ma} (h : M w p m) (i : Nat) (v : Value) (m' : Ma) (hm : m.cells.setIfInBounds i v = m'.cells) : M (w.setCell ⟨p, i, none⟩ v) p m' := by
  unfold M
  rw [heap_setCell_same h, hm]
theorem M.alloc {w : World} {p : Nat} {m : Ma} (h : M w p m) (o : Obj) : M (w.alloc o) p m := (alloc_heap_old _ _ h.lt).trans h
theorem M.setC {w : World} {p : Nat} {m : Ma} (h : M w p m) (o : Nat) (vs : List Value) (m' : Ma) (hm : putA m.cells o vs = m'.cells) : M (w.setCells p o vs) p m' := by
  unfold M
  rw [heap_setCells _ _ _ _ h, hm]
theorem Ca.one (c : Ca) (h1 : c.args.oneCell' = true) (h2 : c.env.oneCell' = true) : c.cells.all (·.oneCell') = true := by
  have e : c.cells.all (·.oneCell') = (c.args.oneCell' && c.env.oneCell') := by
    simp only [Ca.cells, List.all_toArray, List.all_cons, List.all_nil, Bool.and_true]
    rfl
  rw [e, h1, h2]; rfl
theorem M.there {w : World} {p : Nat} {m : Ma} (h : M w p m) : w.there p 7 20 := fun j hj => by
  refine ⟨?_, frozen_of h _⟩
  rw [cell_of h]
  have : m.cells.size = 28 := rfl
  rw [Array.getElem?_eq_getElem (by omega)]; rfl
theorem putA_list : ∀ (vs : List Value) (o : Nat) (C : Array Value), o + vs.length ≤ C.size → (putA C o vs).toList = C.toList.take o ++ (vs ++ C.toList.drop (o + vs.length))
  | [], o, C, _ => by simp [putA]
  | v :: r, o, C, h => by
    have h1 : o < C.toList.length := by simp at h ⊢; omega
    rw [putA, putA_list r (o + 1) _ (by simp at h ⊢; omega)]
    rw [Array.toList_setIfInBounds, List.take_set, List.drop_set, if_pos (by omega)]
    have e1 : (C.toList.take (o + 1)).set o v = C.toList.take o ++ [v] := by
      rw [List.take_succ_eq_append_getElem h1, List.set_append_right _ _ (by simp; omega)]
      have e2 : o - min o C.size = 0 := by simp at h1; omega
      simp [e2]
    rw [e1]
    simp [Nat.add_assoc, Nat.add_comm 1]
theorem putA_whole {C D : Array Value} (h : D.size = C.size) : putA C 0 D.toList = D := by
  apply Array.ext'
  rw [putA_list _ _ _ (by simp [h])]
  simp [h]
theorem M.call {w : World} {p : Nat} {m : Ma} (h : M w p m) (c : Ca) : M (w.setCells p 7 c.cells.toList) p { m with c := c } := h.setC _ _ _ (Array.ext' ((putA_list _ _ _ (show 7 + 20 ≤ 28 by decide)).trans rfl))
theorem M.th' {w : World} {p : Nat} {m : Ma} (h : M w p m) (t : Value) : M (w.setCell ⟨p, 6, none⟩ t) p { m with th := t } := h.set _ _ _ rfl
theorem range_of {W : World} {R : Nat} {C : Array Value} {T : TypeId} {f : Nat × Nat} (h : W.heap[R]? = some (.cells C T f)) : W.rangeAt R 0 C.toList := fun j v hv => by
  rw [Nat.zero_add, cell_of h j]; simpa using hv
theorem M.cell {w : World} {p : Nat} {m : Ma} (h : M w p m) (i : Nat) : w.cell? ⟨p, i, none⟩ = m.cells[i]? := cell_of h i
theorem store_func {w : World} {b i : Nat} {x : Value} (h : w.cell? ⟨b, i, none⟩ = some x) (hf : w.frozen? ⟨b, i, none⟩ = false) (fn : Fn) (fi ca : Array Value) : (store ⟨b, i, none⟩ (.func fn fi ca)).run Tryz.prog w = .ok () (w.setCell ⟨b, i, none⟩ (.func fn fi ca)) := by
  rw [run_store _ _ _ _ _ rfl]
  simp [stored, h, hf]
set_option maxRecDepth 100000 in
set_option maxHeartbeats 2000000 in
theorem sys_any {w : World} {p : Nat} {m : Ma} (h : M w p m) (c : Ca) (fn : Fn) (fi ca : Array Value) (h1 : c.args.oneCell' = true) (h2 : c.env.oneCell' = true) :
    Calls Tryz.prog 72 #[.pointer (some ⟨p, 0, none⟩), .agg c.cells, .func fn fi ca] w fun e w' => e = .returned (.tuple #[]) ∧ M w' p { m with c := c, th := .func fn fi ca } ∧ Mo p w w' := by
  have HI : Hid ((Tryz.prog.info? 39).map (·.size) = some c.cells.size) := Lib.hid rfl
  have HL : Hid ((Tryz.prog.info? 39).map (·.size) = some c.cells.toList.length) := Lib.hid rfl
  have H1 := Lib.hid (c.one h1 h2)
  have HR := Lib.hid (range_of (alloc_heap w (.cells c.cells 39)))
  have ha := h.alloc (.cells c.cells 39)
  have hc := ha.call c
  have HT : Hid ((w.alloc (.cells c.cells 39)).there p 7 c.cells.size) := Lib.hid ha.there
  have hM := hc.th' (.func fn fi ca)
  have hmo : Mo p w ((w.alloc (.cells c.cells 39)).setCells p 7 c.cells.toList) := ((Mo.refl p w).alloc _).setCells _ _
  obtain ⟨C, hC⟩ : ∃ C, c.cells = C := ⟨_, rfl⟩
  rw [hC] at HI HL H1 HR HT hM hmo hc ⊢
  obtain ⟨W, hW⟩ : ∃ W, (w.alloc (.cells C 39)).setCells p 7 C.toList = W := ⟨_, rfl⟩
  rw [hW] at hM hmo hc
  have k6 := hc.cell 6
  have f6 := frozen_of hc 6
  rw [show ({ m with c := c } : Ma).cells[6]? = some m.th from rfl] at k6
  have hst := store_func k6 f6 fn fi ca
  have HM := Lib.hid hM
  have HMO := Lib.hid (hmo.set (i := 6) (.func fn fi ca))
  clear h h1 h2 hC ha hc hM hmo
  go_enter Tryz.func72, Tryz.ntmps72
  go_wp2_with (first | (refine wpList_load_mid rfl 39 _ rfl w.heap.size 0 rfl C.toList _ HR.out Tryz.underlying39 rfl HL.out ?_) | (refine wpList_store_mid rfl 39 _ _ rfl p 7 C rfl rfl HT.out HI.out H1.out ?_; rw [hW]; clear hW))
  exact bodyPost_end (results_none rfl _ _ _) rfl ⟨rfl, HM.out, HMO.out⟩
set_option maxRecDepth 100000 in
set_option maxHeartbeats 2000000 in
theorem exit_any {w : World} {p : Nat} {m : Ma} (h : M w p m) (n : Int) :
    Calls Tryz.prog 50 #[.pointer (some ⟨p, 0, none⟩), .int .i64 n] w fun e w' => e = .returned (.tuple #[]) ∧ M w' p { m with c := { op := 20, n := bits BinOp.and .i64 n 255 }, over := true } ∧ Mo p w w' := by
  obtain ⟨c, hc⟩ : ∃ c : Ca, ({ op := 20, n := bits BinOp.and .i64 n 255 } : Ca) = c := ⟨_, rfl⟩
  rw [hc]
  have HI : Hid ((Tryz.prog.info? 39).map (·.size) = some c.cells.size) := Lib.hid rfl
  have H1 : Hid (c.cells.all (·.oneCell') = true) := Lib.hid (by rw [← hc]; exact Ca.one _ rfl rfl)
  have HT := Lib.hid h.there
  have h7 := h.call c
  have hmo : Mo p w (w.setCells p 7 c.cells.toList) := (Mo.refl p w).setCells _ _
  have HE : Hid (.agg c.cells = Value.agg #[.int .i64 20, .string ⟨#[]⟩, .string ⟨#[]⟩, .string ⟨#[]⟩, .int .i64 0, .int .i64 0, .int .i64 (bits BinOp.and .i64 n 255), .int .i64 0, .int .i64 0, .int .i64 0, .int .i64 0, .bool false, .bool false, .bool false, .bool false, .int .i64 0, .bool false, .bool false, .slice none 0 0, .slice none 0 0]) := Lib.hid (by rw [← hc]; rfl)
  have hM := h7.set 27 (.bool true) { m with c := c, over := true } rfl
  obtain ⟨C, hC⟩ : ∃ C, c.cells = C := ⟨_, rfl⟩
  rw [hC] at HI H1 hM hmo h7 HE
  obtain ⟨W, hW⟩ : ∃ W, w.setCells p 7 C.toList = W := ⟨_, rfl⟩
  rw [hW] at hM hmo h7
  have k6 := h7.cell 27
  have f6 := frozen_of h7 27
  rw [show ({ m with c := c } : Ma).cells[27]? = some (.bool m.over) from rfl] at k6
  have HT : Hid (w.there p 7 C.size) := Lib.hid (by rw [← hC]; exact HT.out)
  have HM := Lib.hid hM
  have HMO := Lib.hid (hmo.set (i := 27) (.bool true))
  clear h hC hM hmo h7
  go_enter Tryz.func50, Tryz.ntmps50
  go_wp2_with (refine wpList_store_mid rfl 39 _ _ rfl p 7 C rfl HE.out.symm HT.out HI.out H1.out ?_; rw [hW]; clear hW)
  exact bodyPost_end (results_none rfl _ _ _) rfl ⟨rfl, HM.out, HMO.out⟩
end Go.Proofs.YtlhlehdajkoogaaGreatDoor
