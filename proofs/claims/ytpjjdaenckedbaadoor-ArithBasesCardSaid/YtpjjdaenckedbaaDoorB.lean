/- Expressions: the reader as it lies; blanks, signs. -/
import Derived.Test.YtpjjdaenckedbaaDoorA
import Derived.Shelf.Strings.SlTrimAscii
import Derived.Test.YtpjjdaenckedbaaDoorShelf
namespace Go.Proofs.YtpjjdaenckedbaaDoor
open Go.RowKit

theorem heap_cell {w : World} {b : Nat} {C : Array Value} {T : TypeId} {f : Nat × Nat} (h : w.heap[b]? = some (.cells C T f)) (i : Nat) : w.cell? ⟨b, i, none⟩ = C[i]? := by simp [World.cell?, h]
theorem at_new (w : World) (o : Obj) : (w.alloc o).heap[w.heap.size]? = some o := by
  show (w.heap.push o)[w.heap.size]? = some o
  simp
theorem heap_free {w : World} {b : Nat} {C : Array Value} {T : TypeId} (h : w.heap[b]? = some (.cells C T (0, 0))) (i : Nat) : w.frozen? ⟨b, i, none⟩ = false := by simp [World.frozen?, h]
theorem set_same {w : World} {b i : Nat} {C : Array Value} {T : TypeId} {f : Nat × Nat} (h : w.heap[b]? = some (.cells C T f)) (v : Value) : (w.setCell ⟨b, i, none⟩ v).heap[b]? = some (.cells (C.setIfInBounds i v) T f) := by
  simp [World.setCell, Array.getElem?_modify, h]
/-- New blocks, and one that was there is another one: nothing else. -/
structure Mo (b : Nat) (w w' : World) : Prop where
  os : w'.os = w.os
  tape : w'.tape = w.tape
  output : w'.output = w.output
  size : w.heap.size ≤ w'.heap.size
  block : ∀ k, k < w.heap.size → k ≠ b → w'.heap[k]? = w.heap[k]?
theorem Mo.refl (b : Nat) (w : World) : Mo b w w := ⟨rfl, rfl, rfl, Nat.le_refl _, fun _ _ _ => rfl⟩
theorem Mo.trans {b : Nat} {a c d : World} (h : Mo b a c) (k : Mo b c d) : Mo b a d :=
  ⟨k.os.trans h.os, k.tape.trans h.tape, k.output.trans h.output, Nat.le_trans h.size k.size, fun i hi hb => (k.block i (Nat.lt_of_lt_of_le hi h.size) hb).trans (h.block i hi hb)⟩
theorem Mo.of {b : Nat} {w w' : World} (h : Below w.heap.size w w') : Mo b w w' := ⟨h.os, h.tape, h.output, h.size, fun k hk _ => h.block k hk⟩
theorem Mo.set {b i : Nat} {a w : World} (h : Mo b a w) (v : Value) : Mo b a (w.setCell ⟨b, i, none⟩ v) where
  os := h.os
  tape := h.tape
  output := h.output
  size := by rw [World.size_setCell]; exact h.size
  block := fun k hk hb => by rw [Below.heap_setCell _ _ _ _ hb]; exact h.block k hk hb
theorem Mo.alloc {b : Nat} {a w : World} (h : Mo b a w) (o : Obj) : Mo b a (w.alloc o) := h.trans (Mo.of ((Below.refl _ _).alloc (Nat.le_refl _) o))
theorem Mo.below {b B : Nat} {w0 w w' : World} (h : Below B w0 w) (k : Mo b w w') (hb : B ≤ b) (hB : B ≤ w.heap.size) : Below B w0 w' :=
  ⟨k.os.trans h.os, k.tape.trans h.tape, k.output.trans h.output, Nat.le_trans h.size k.size, fun i hi => (k.block i (Nat.lt_of_lt_of_le hi hB) (by omega)).trans (h.block i hi)⟩
/-- The reader. -/
def RD (w : World) (b : Nat) (s : Bytes) (d : Int) : Prop := w.heap[b]? = some (.cells #[.string (B s), .int .i64 d] 39 (0, 0))
theorem RD.lt {w : World} {b : Nat} {s : Bytes} {d : Int} (h : RD w b s d) : b < w.heap.size := (Array.getElem?_eq_some_iff.1 h).1
theorem RD.still {w w' : World} {b : Nat} {s : Bytes} {d : Int} (h : RD w b s d) (hb : Below w.heap.size w w') : RD w' b s d := by
  unfold RD at *
  rw [hb.block b (Array.getElem?_eq_some_iff.1 h).1]; exact h
theorem RD.text {w : World} {b : Nat} {s : Bytes} {d : Int} (h : RD w b s d) (t : Bytes) : RD (w.setCell ⟨b, 0, none⟩ (.string (B t))) b t d := set_same h _
theorem RD.deep {w : World} {b : Nat} {s : Bytes} {d : Int} (h : RD w b s d) (e : Int) : RD (w.setCell ⟨b, 1, none⟩ (.int .i64 e)) b s e := set_same h _
theorem RD.c0 {w : World} {b : Nat} {s : Bytes} {d : Int} (h : RD w b s d) : w.cell? ⟨b, 0, none⟩ = some (.string (B s)) := heap_cell h 0
theorem RD.c1 {w : World} {b : Nat} {s : Bytes} {d : Int} (h : RD w b s d) : w.cell? ⟨b, 1, none⟩ = some (.int .i64 d) := heap_cell h 1
theorem RD.f {w : World} {b : Nat} {s : Bytes} {d : Int} (h : RD w b s d) (i : Nat) : w.frozen? ⟨b, i, none⟩ = false := heap_free h i
/-- What a reader's step ends with. -/
def RP (b : Nat) (s : Bytes) (d : Int) (v : Value) (w : World) (e : Ending) (w' : World) : Prop := e = .returned v ∧ RD w' b s d ∧ Mo b w w'
theorem trimleft_any (s : Bytes) (w : World) :
    Calls Tryd.prog 17 #[.string (B s), .string ⟨#[32, 9, 10]⟩] w fun e w' => e = .returned (.string (B (blank s))) ∧ Below w.heap.size w w' := by
  refine (Any.strings_TrimLeft_laid Tryd.lays161 (by kernel_rfl) (B s) ⟨#[32, 9, 10]⟩ w (by decide) ?_).mono ?_
  · intro j b hj
    have : b ∈ [32, 9, 10] := List.mem_of_getElem? hj
    simp at this
    rcases this with rfl | rfl | rfl <;> decide
  · rintro e w' ⟨rfl, hb⟩
    refine ⟨?_, hb⟩
    have e1 : (fun c : UInt8 => ([32, 9, 10] : Bytes).contains c) = isB := funext fun c => by
      unfold isB
      simp only [List.contains_cons, List.contains_nil, Bool.or_false, Bool.or_assoc]
    show Ending.returned (.string ⟨(s.dropWhile (fun c => ([32, 9, 10] : Bytes).contains c)).toArray⟩) = _
    rw [e1]; rfl
theorem blanks_any (b : Nat) (s : Bytes) (d : Int) (w : World) (h : RD w b s d) : Calls Tryd.prog 12 #[.pointer (some ⟨b, 0, none⟩)] w (RP b (blank s) d (.tuple #[]) w) := by
  have c0 := h.c0
  have H := Lib.hid h
  clear h
  go_enter Tryd.func12, Tryd.ntmps12
  go_wp2_with fail
  refine (trimleft_any s _).mono ?_
  rintro e w1 ⟨rfl, hb⟩
  have h1 := H.out.still hb
  have H1 := Lib.hid h1
  have HM := Lib.hid (Mo.of (b := b) hb)
  have d0 := h1.c0
  have f0 := h1.f 0
  clear h1 hb c0
  go_wp2
  go_end0
  exact ⟨rfl, H1.out.text _, HM.out.set _⟩
/-- The signs, as they lie. -/
def SgC (w : World) (n : Nat) : Prop := w.heap[n]? = some (.cells (signsL.map fun s => Value.string (B s)).toArray 9 (0, 0))
set_option maxRecDepth 100000 in
theorem signs_any (w : World) : Calls Tryd.prog 32 #[] w fun e w' => e = .returned (.slice (some ⟨w.heap.size, 0, none⟩) 35 35) ∧ SgC w' w.heap.size ∧ Below w.heap.size w w' := by
  go_enter Tryd.func32, Tryd.ntmps32
  go_wp2
  go_ret
  exact ⟨rfl, at_new _ _, (Below.refl _ _).alloc (Nat.le_refl _) _⟩
end Go.Proofs.YtpjjdaenckedbaaDoor
