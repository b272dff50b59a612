/- Operators of one: the program's. -/
import Derived.Test.YthomdgejbkcljaaDoorF
namespace Go.Proofs.YthomdgejbkcljaaDoor
open Go.RowKit

theorem is_empty (x : ByteArray) : x.toList.isEmpty = decide (x.size = 0) := by
  rw [← decide_eq_emptyBytes]
  rw [Bool.eq_iff_iff, decide_eq_true_eq, decide_eq_true_eq]
  constructor
  · intro h; rw [h]; rfl
  · intro h
    apply ByteArray.ext
    exact Array.eq_empty_of_size_eq_zero h
/-- What a fact says, by the operator's second byte. -/
def sayS (c : UInt8) (f : FactS) : Bool :=
  if c = 102 then f.kind == 0 else if c = 100 then f.kind == 1 else if c = 99 then f.kind == 2 else if c = 115 then decide (0 < f.size)
  else if c = 114 then bits .and .i64 f.may 4 != 0 else if c = 119 then bits .and .i64 f.may 2 != 0 else if c = 120 then bits .and .i64 f.may 1 != 0 else true
def isFileC (c : UInt8) : Bool := c == 101 || c == 102 || c == 100 || c == 99 || c == 115 || c == 114 || c == 119 || c == 120
theorem b2_inj {a b c d : UInt8} (h : b2 a b = b2 c d) : a = c ∧ b = d := by
  have := congrArg (fun x : ByteArray => x.data.toList) h
  simpa [b2] using this
theorem saysS_say {c : UInt8} (f : FactS) : saysS (b2 45 c) f = (f.is && sayS c f) := by
  have key : ∀ d : UInt8, (b2 45 c = b2 45 d) = (c = d) := fun d => propext ⟨fun h => (b2_inj h).2, fun h => by rw [h]⟩
  unfold saysS sayS
  simp only [key]
  rfl
theorem fileOp_c {c : UInt8} (h : isFileC c = true) : fileOp (b2 45 c) = true := by
  unfold isFileC at h
  have key : ∀ d : UInt8, decide (b2 45 c = b2 45 d) = (c == d) := fun d => by
    rw [Bool.eq_iff_iff, decide_eq_true_eq, beq_iff_eq]
    exact ⟨fun h => (b2_inj h).2, fun h => by rw [h]⟩
  unfold fileOp
  simp only [key]
  exact h
theorem oneS_file {c : UInt8} (h : isFileC c = true) (x : ByteArray) (fs : List FactS) : oneS (b2 45 c) x fs = match fs.find? (fun f => decide (f.path = x)) with
    | none => .inr x
    | some f => .inl (truthN (f.is && sayS c f)) := by
  have h1 : ¬ b2 45 c = b2 45 110 := fun e => by have := (b2_inj e).2; subst this; exact absurd h (by decide)
  have h2 : ¬ b2 45 c = b2 45 122 := fun e => by have := (b2_inj e).2; subst this; exact absurd h (by decide)
  unfold oneS
  rw [if_neg h1, if_neg h2, if_pos (fileOp_c h)]
  simp only [saysS_say]
  cases fs.find? (fun f => decide (f.path = x)) <;> rfl
theorem op_eq (c : UInt8) (d : UInt8) : ((b2 45 c).toList == [45, d]) = (c == d) := by
  rw [eq_const, Bool.eq_iff_iff, decide_eq_true_eq, beq_iff_eq]
  exact ⟨fun h => (b2_inj h).2, fun h => by rw [h]; rfl⟩
theorem notFile {op : ByteArray} (h : fileOp op = false) : ∀ d : UInt8, isFileC d = true → (op.toList == [45, d]) = false := fun d hd => by
  refine ne_const (fun e => ?_)
  have e2 : op = b2 45 d := e
  rw [e2, fileOp_c hd] at h
  cases h

set_option maxHeartbeats 4000000 in
set_option maxRecDepth 100000 in
theorem one_101 (x : ByteArray) (v : Value) (fs : List FactS) (w : World) (hF : InF w v fs) (hn : fs.length ≤ 140737488355328) :
    Calls Tryd.prog 23 #[.string (b2 45 101), .string x, v] w (TP (oneS (b2 45 101) x fs) w) := by
  have hcell : (w.alloc (.cells #[.string x] 9)).cell? ⟨w.heap.size, 0, none⟩ = some (.string x) := heap_cell (at_new w _) 0
  have hb0 : Below w.heap.size w (w.alloc (.cells #[.string x] 9)) := (Below.refl _ _).alloc (Nat.le_refl _) _
  have HI := Lib.hid (index_any v fs w.heap.size x (w.alloc (.cells #[.string x] 9)) (hF.below hb0) hn hcell)
  have HS := Lib.hid (oneS_file (c := 101) (by decide) x fs)
  have o110 : ((b2 45 101).toList == [45, 110]) = false := (op_eq 101 110).trans (by decide)
  have o122 : ((b2 45 101).toList == [45, 122]) = false := (op_eq 101 122).trans (by decide)
  have o101 : ((b2 45 101).toList == [45, 101]) = true := (op_eq 101 101).trans (by decide)
  have o102 : ((b2 45 101).toList == [45, 102]) = false := (op_eq 101 102).trans (by decide)
  have o100 : ((b2 45 101).toList == [45, 100]) = false := (op_eq 101 100).trans (by decide)
  have o99 : ((b2 45 101).toList == [45, 99]) = false := (op_eq 101 99).trans (by decide)
  have o115 : ((b2 45 101).toList == [45, 115]) = false := (op_eq 101 115).trans (by decide)
  have o114 : ((b2 45 101).toList == [45, 114]) = false := (op_eq 101 114).trans (by decide)
  have o119 : ((b2 45 101).toList == [45, 119]) = false := (op_eq 101 119).trans (by decide)
  have o120 : ((b2 45 101).toList == [45, 120]) = false := (op_eq 101 120).trans (by decide)
  have hmf : ∀ (fn : Fn) (first cap : Array Value) (w : World), (Instr.makeFunc fn first cap).run Tryd.prog w = .ok (.func fn first cap) w := fun _ _ _ _ => rfl
  have HC := Lib.hid hcell
  have HB0 := Lib.hid hb0
  have HF := Lib.hid hF
  clear hcell hb0 hF
  go_enter Tryd.func23, Tryd.ntmps23
  go_wp2_with fail
  refine HI.out.mono ?_
  rintro e w1 ⟨rfl, hb1⟩
  have hx1 : w1.cell? ⟨w.heap.size, 0, none⟩ = some (.string x) := by
    rw [hb1.cell (p := ⟨w.heap.size, 0, none⟩) (World.block_lt_of_cell? _ _ HC.out)]; exact HC.out
  have HB1 := Lib.hid (HB0.out.trans (hb1.mono HB0.out.size))
  clear hb1
  cases hf : fs.find? (fun f => decide (f.path = x)) with
  | none =>
    have hi := findI_none x fs 0 hf
    rw [hi]
    have HR : Hid (oneS (b2 45 101) x fs = .inr x) := Lib.hid (by rw [HS.out, hf])
    clear hf hi
    go_wp2
    exact ⟨rfl, by rw [HR.out]; rfl, HB1.out⟩
  | some f =>
    obtain ⟨k, hk, hfk, hi⟩ := findI_some x f fs 0 hf
    have hi2 : findI x fs 0 = (k : Int) := by rw [show (0 : Int) = ((0 : Nat) : Int) from rfl, hi]; congr 1; omega
    rw [hi2]
    have HR : Hid (oneS (b2 45 101) x fs = .inl (truthN (f.is && sayS 101 f))) := Lib.hid (by rw [HS.out, hf])
    obtain ⟨a, cap, rfl, hcc⟩ := HF.out
    obtain ⟨b, off, rfl, hfc⟩ := InF.fc HF.out HB1.out hk
    rw [hfk] at hfc
    obtain ⟨g0, g1, g2, g3, g4, g5, g6, g7, g8, g9, g10⟩ := hfc
    have hk1 : (k : Int) < fs.length := by omega
    have hk2 : (0 : Int) ≤ k := by omega
    have hn1 : (fs.length : Int) ≤ 140737488355328 := by omega
    clear hf hi hi2 hcc hn hk hfk hx1
    obtain ⟨fi, hfi⟩ : ∃ fi, f.is = fi := ⟨_, rfl⟩
    rw [hfi] at g1 HR
    clear hfi
    cases fi with
    | false =>
      go_wp2_with fail
      refine (truth_any _ _).mono ?_
      rintro e w2 ⟨rfl, rfl⟩
      go_wp2
      go_ret
      exact ⟨by rw [HR.out]; rfl, HB1.out.alloc HB1.out.size _⟩
    | true =>
      go_wp2_with fail
      refine (truth_any _ _).mono ?_
      rintro e w2 ⟨rfl, rfl⟩
      go_wp2
      go_ret
      exact ⟨by rw [HR.out]; rfl, HB1.out.alloc HB1.out.size _⟩
set_option maxHeartbeats 4000000 in
set_option maxRecDepth 100000 in
theorem one_102 (x : ByteArray) (v : Value) (fs : List FactS) (w : World) (hF : InF w v fs) (hn : fs.length ≤ 140737488355328) :
    Calls Tryd.prog 23 #[.string (b2 45 102), .string x, v] w (TP (oneS (b2 45 102) x fs) w) := by
  have hcell : (w.alloc (.cells #[.string x] 9)).cell? ⟨w.heap.size, 0, none⟩ = some (.string x) := heap_cell (at_new w _) 0
  have hb0 : Below w.heap.size w (w.alloc (.cells #[.string x] 9)) := (Below.refl _ _).alloc (Nat.le_refl _) _
  have HI := Lib.hid (index_any v fs w.heap.size x (w.alloc (.cells #[.string x] 9)) (hF.below hb0) hn hcell)
  have HS := Lib.hid (oneS_file (c := 102) (by decide) x fs)
  have o110 : ((b2 45 102).toList == [45, 110]) = false := (op_eq 102 110).trans (by decide)
  have o122 : ((b2 45 102).toList == [45, 122]) = false := (op_eq 102 122).trans (by decide)
  have o101 : ((b2 45 102).toList == [45, 101]) = false := (op_eq 102 101).trans (by decide)
  have o102 : ((b2 45 102).toList == [45, 102]) = true := (op_eq 102 102).trans (by decide)
  have o100 : ((b2 45 102).toList == [45, 100]) = false := (op_eq 102 100).trans (by decide)
  have o99 : ((b2 45 102).toList == [45, 99]) = false := (op_eq 102 99).trans (by decide)
  have o115 : ((b2 45 102).toList == [45, 115]) = false := (op_eq 102 115).trans (by decide)
  have o114 : ((b2 45 102).toList == [45, 114]) = false := (op_eq 102 114).trans (by decide)
  have o119 : ((b2 45 102).toList == [45, 119]) = false := (op_eq 102 119).trans (by decide)
  have o120 : ((b2 45 102).toList == [45, 120]) = false := (op_eq 102 120).trans (by decide)
  have hmf : ∀ (fn : Fn) (first cap : Array Value) (w : World), (Instr.makeFunc fn first cap).run Tryd.prog w = .ok (.func fn first cap) w := fun _ _ _ _ => rfl
  have HC := Lib.hid hcell
  have HB0 := Lib.hid hb0
  have HF := Lib.hid hF
  clear hcell hb0 hF
  go_enter Tryd.func23, Tryd.ntmps23
  go_wp2_with fail
  refine HI.out.mono ?_
  rintro e w1 ⟨rfl, hb1⟩
  have hx1 : w1.cell? ⟨w.heap.size, 0, none⟩ = some (.string x) := by
    rw [hb1.cell (p := ⟨w.heap.size, 0, none⟩) (World.block_lt_of_cell? _ _ HC.out)]; exact HC.out
  have HB1 := Lib.hid (HB0.out.trans (hb1.mono HB0.out.size))
  clear hb1
  cases hf : fs.find? (fun f => decide (f.path = x)) with
  | none =>
    have hi := findI_none x fs 0 hf
    rw [hi]
    have HR : Hid (oneS (b2 45 102) x fs = .inr x) := Lib.hid (by rw [HS.out, hf])
    clear hf hi
    go_wp2
    exact ⟨rfl, by rw [HR.out]; rfl, HB1.out⟩
  | some f =>
    obtain ⟨k, hk, hfk, hi⟩ := findI_some x f fs 0 hf
    have hi2 : findI x fs 0 = (k : Int) := by rw [show (0 : Int) = ((0 : Nat) : Int) from rfl, hi]; congr 1; omega
    rw [hi2]
    have HR : Hid (oneS (b2 45 102) x fs = .inl (truthN (f.is && sayS 102 f))) := Lib.hid (by rw [HS.out, hf])
    obtain ⟨a, cap, rfl, hcc⟩ := HF.out
    obtain ⟨b, off, rfl, hfc⟩ := InF.fc HF.out HB1.out hk
    rw [hfk] at hfc
    obtain ⟨g0, g1, g2, g3, g4, g5, g6, g7, g8, g9, g10⟩ := hfc
    have hk1 : (k : Int) < fs.length := by omega
    have hk2 : (0 : Int) ≤ k := by omega
    have hn1 : (fs.length : Int) ≤ 140737488355328 := by omega
    clear hf hi hi2 hcc hn hk hfk hx1
    obtain ⟨fi, hfi⟩ : ∃ fi, f.is = fi := ⟨_, rfl⟩
    rw [hfi] at g1 HR
    clear hfi
    cases fi with
    | false =>
      go_wp2_with fail
      refine (truth_any _ _).mono ?_
      rintro e w2 ⟨rfl, rfl⟩
      go_wp2
      go_ret
      exact ⟨by rw [HR.out]; rfl, HB1.out.alloc HB1.out.size _⟩
    | true =>
      go_wp2_with fail
      refine (truth_any _ _).mono ?_
      rintro e w2 ⟨rfl, rfl⟩
      go_wp2
      go_ret
      exact ⟨by rw [HR.out]; rfl, HB1.out.alloc HB1.out.size _⟩
set_option maxHeartbeats 4000000 in
set_option maxRecDepth 100000 in
theorem one_100 (x : ByteArray) (v : Value) (fs : List FactS) (w : World) (hF : InF w v fs) (hn : fs.length ≤ 140737488355328) :
    Calls Tryd.prog 23 #[.string (b2 45 100), .string x, v] w (TP (oneS (b2 45 100) x fs) w) := by
  have hcell : (w.alloc (.cells #[.string x] 9)).cell? ⟨w.heap.size, 0, none⟩ = some (.string x) := heap_cell (at_new w _) 0
  have hb0 : Below w.heap.size w (w.alloc (.cells #[.string x] 9)) := (Below.refl _ _).alloc (Nat.le_refl _) _
  have HI := Lib.hid (index_any v fs w.heap.size x (w.alloc (.cells #[.string x] 9)) (hF.below hb0) hn hcell)
  have HS := Lib.hid (oneS_file (c := 100) (by decide) x fs)
  have o110 : ((b2 45 100).toList == [45, 110]) = false := (op_eq 100 110).trans (by decide)
  have o122 : ((b2 45 100).toList == [45, 122]) = false := (op_eq 100 122).trans (by decide)
  have o101 : ((b2 45 100).toList == [45, 101]) = false := (op_eq 100 101).trans (by decide)
  have o102 : ((b2 45 100).toList == [45, 102]) = false := (op_eq 100 102).trans (by decide)
  have o100 : ((b2 45 100).toList == [45, 100]) = true := (op_eq 100 100).trans (by decide)
  have o99 : ((b2 45 100).toList == [45, 99]) = false := (op_eq 100 99).trans (by decide)
  have o115 : ((b2 45 100).toList == [45, 115]) = false := (op_eq 100 115).trans (by decide)
  have o114 : ((b2 45 100).toList == [45, 114]) = false := (op_eq 100 114).trans (by decide)
  have o119 : ((b2 45 100).toList == [45, 119]) = false := (op_eq 100 119).trans (by decide)
  have o120 : ((b2 45 100).toList == [45, 120]) = false := (op_eq 100 120).trans (by decide)
  have hmf : ∀ (fn : Fn) (first cap : Array Value) (w : World), (Instr.makeFunc fn first cap).run Tryd.prog w = .ok (.func fn first cap) w := fun _ _ _ _ => rfl
  have HC := Lib.hid hcell
  have HB0 := Lib.hid hb0
  have HF := Lib.hid hF
  clear hcell hb0 hF
  go_enter Tryd.func23, Tryd.ntmps23
  go_wp2_with fail
  refine HI.out.mono ?_
  rintro e w1 ⟨rfl, hb1⟩
  have hx1 : w1.cell? ⟨w.heap.size, 0, none⟩ = some (.string x) := by
    rw [hb1.cell (p := ⟨w.heap.size, 0, none⟩) (World.block_lt_of_cell? _ _ HC.out)]; exact HC.out
  have HB1 := Lib.hid (HB0.out.trans (hb1.mono HB0.out.size))
  clear hb1
  cases hf : fs.find? (fun f => decide (f.path = x)) with
  | none =>
    have hi := findI_none x fs 0 hf
    rw [hi]
    have HR : Hid (oneS (b2 45 100) x fs = .inr x) := Lib.hid (by rw [HS.out, hf])
    clear hf hi
    go_wp2
    exact ⟨rfl, by rw [HR.out]; rfl, HB1.out⟩
  | some f =>
    obtain ⟨k, hk, hfk, hi⟩ := findI_some x f fs 0 hf
    have hi2 : findI x fs 0 = (k : Int) := by rw [show (0 : Int) = ((0 : Nat) : Int) from rfl, hi]; congr 1; omega
    rw [hi2]
    have HR : Hid (oneS (b2 45 100) x fs = .inl (truthN (f.is && sayS 100 f))) := Lib.hid (by rw [HS.out, hf])
    obtain ⟨a, cap, rfl, hcc⟩ := HF.out
    obtain ⟨b, off, rfl, hfc⟩ := InF.fc HF.out HB1.out hk
    rw [hfk] at hfc
    obtain ⟨g0, g1, g2, g3, g4, g5, g6, g7, g8, g9, g10⟩ := hfc
    have hk1 : (k : Int) < fs.length := by omega
    have hk2 : (0 : Int) ≤ k := by omega
    have hn1 : (fs.length : Int) ≤ 140737488355328 := by omega
    clear hf hi hi2 hcc hn hk hfk hx1
    obtain ⟨fi, hfi⟩ : ∃ fi, f.is = fi := ⟨_, rfl⟩
    rw [hfi] at g1 HR
    clear hfi
    cases fi with
    | false =>
      go_wp2_with fail
      refine (truth_any _ _).mono ?_
      rintro e w2 ⟨rfl, rfl⟩
      go_wp2
      go_ret
      exact ⟨by rw [HR.out]; rfl, HB1.out.alloc HB1.out.size _⟩
    | true =>
      go_wp2_with fail
      refine (truth_any _ _).mono ?_
      rintro e w2 ⟨rfl, rfl⟩
      go_wp2
      go_ret
      exact ⟨by rw [HR.out]; rfl, HB1.out.alloc HB1.out.size _⟩
set_option maxHeartbeats 4000000 in
set_option maxRecDepth 100000 in
theorem one_99 (x : ByteArray) (v : Value) (fs : List FactS) (w : World) (hF : InF w v fs) (hn : fs.length ≤ 140737488355328) :
    Calls Tryd.prog 23 #[.string (b2 45 99), .string x, v] w (TP (oneS (b2 45 99) x fs) w) := by
  have hcell : (w.alloc (.cells #[.string x] 9)).cell? ⟨w.heap.size, 0, none⟩ = some (.string x) := heap_cell (at_new w _) 0
  have hb0 : Below w.heap.size w (w.alloc (.cells #[.string x] 9)) := (Below.refl _ _).alloc (Nat.le_refl _) _
  have HI := Lib.hid (index_any v fs w.heap.size x (w.alloc (.cells #[.string x] 9)) (hF.below hb0) hn hcell)
  have HS := Lib.hid (oneS_file (c := 99) (by decide) x fs)
  have o110 : ((b2 45 99).toList == [45, 110]) = false := (op_eq 99 110).trans (by decide)
  have o122 : ((b2 45 99).toList == [45, 122]) = false := (op_eq 99 122).trans (by decide)
  have o101 : ((b2 45 99).toList == [45, 101]) = false := (op_eq 99 101).trans (by decide)
  have o102 : ((b2 45 99).toList == [45, 102]) = false := (op_eq 99 102).trans (by decide)
  have o100 : ((b2 45 99).toList == [45, 100]) = false := (op_eq 99 100).trans (by decide)
  have o99 : ((b2 45 99).toList == [45, 99]) = true := (op_eq 99 99).trans (by decide)
  have o115 : ((b2 45 99).toList == [45, 115]) = false := (op_eq 99 115).trans (by decide)
  have o114 : ((b2 45 99).toList == [45, 114]) = false := (op_eq 99 114).trans (by decide)
  have o119 : ((b2 45 99).toList == [45, 119]) = false := (op_eq 99 119).trans (by decide)
  have o120 : ((b2 45 99).toList == [45, 120]) = false := (op_eq 99 120).trans (by decide)
  have hmf : ∀ (fn : Fn) (first cap : Array Value) (w : World), (Instr.makeFunc fn first cap).run Tryd.prog w = .ok (.func fn first cap) w := fun _ _ _ _ => rfl
  have HC := Lib.hid hcell
  have HB0 := Lib.hid hb0
  have HF := Lib.hid hF
  clear hcell hb0 hF
  go_enter Tryd.func23, Tryd.ntmps23
  go_wp2_with fail
  refine HI.out.mono ?_
  rintro e w1 ⟨rfl, hb1⟩
  have hx1 : w1.cell? ⟨w.heap.size, 0, none⟩ = some (.string x) := by
    rw [hb1.cell (p := ⟨w.heap.size, 0, none⟩) (World.block_lt_of_cell? _ _ HC.out)]; exact HC.out
  have HB1 := Lib.hid (HB0.out.trans (hb1.mono HB0.out.size))
  clear hb1
  cases hf : fs.find? (fun f => decide (f.path = x)) with
  | none =>
    have hi := findI_none x fs 0 hf
    rw [hi]
    have HR : Hid (oneS (b2 45 99) x fs = .inr x) := Lib.hid (by rw [HS.out, hf])
    clear hf hi
    go_wp2
    exact ⟨rfl, by rw [HR.out]; rfl, HB1.out⟩
  | some f =>
    obtain ⟨k, hk, hfk, hi⟩ := findI_some x f fs 0 hf
    have hi2 : findI x fs 0 = (k : Int) := by rw [show (0 : Int) = ((0 : Nat) : Int) from rfl, hi]; congr 1; omega
    rw [hi2]
    have HR : Hid (oneS (b2 45 99) x fs = .inl (truthN (f.is && sayS 99 f))) := Lib.hid (by rw [HS.out, hf])
    obtain ⟨a, cap, rfl, hcc⟩ := HF.out
    obtain ⟨b, off, rfl, hfc⟩ := InF.fc HF.out HB1.out hk
    rw [hfk] at hfc
    obtain ⟨g0, g1, g2, g3, g4, g5, g6, g7, g8, g9, g10⟩ := hfc
    have hk1 : (k : Int) < fs.length := by omega
    have hk2 : (0 : Int) ≤ k := by omega
    have hn1 : (fs.length : Int) ≤ 140737488355328 := by omega
    clear hf hi hi2 hcc hn hk hfk hx1
    obtain ⟨fi, hfi⟩ : ∃ fi, f.is = fi := ⟨_, rfl⟩
    rw [hfi] at g1 HR
    clear hfi
    cases fi with
    | false =>
      go_wp2_with fail
      refine (truth_any _ _).mono ?_
      rintro e w2 ⟨rfl, rfl⟩
      go_wp2
      go_ret
      exact ⟨by rw [HR.out]; rfl, HB1.out.alloc HB1.out.size _⟩
    | true =>
      go_wp2_with fail
      refine (truth_any _ _).mono ?_
      rintro e w2 ⟨rfl, rfl⟩
      go_wp2
      go_ret
      exact ⟨by rw [HR.out]; rfl, HB1.out.alloc HB1.out.size _⟩
set_option maxHeartbeats 4000000 in
set_option maxRecDepth 100000 in
theorem one_115 (x : ByteArray) (v : Value) (fs : List FactS) (w : World) (hF : InF w v fs) (hn : fs.length ≤ 140737488355328) :
    Calls Tryd.prog 23 #[.string (b2 45 115), .string x, v] w (TP (oneS (b2 45 115) x fs) w) := by
  have hcell : (w.alloc (.cells #[.string x] 9)).cell? ⟨w.heap.size, 0, none⟩ = some (.string x) := heap_cell (at_new w _) 0
  have hb0 : Below w.heap.size w (w.alloc (.cells #[.string x] 9)) := (Below.refl _ _).alloc (Nat.le_refl _) _
  have HI := Lib.hid (index_any v fs w.heap.size x (w.alloc (.cells #[.string x] 9)) (hF.below hb0) hn hcell)
  have HS := Lib.hid (oneS_file (c := 115) (by decide) x fs)
  have o110 : ((b2 45 115).toList == [45, 110]) = false := (op_eq 115 110).trans (by decide)
  have o122 : ((b2 45 115).toList == [45, 122]) = false := (op_eq 115 122).trans (by decide)
  have o101 : ((b2 45 115).toList == [45, 101]) = false := (op_eq 115 101).trans (by decide)
  have o102 : ((b2 45 115).toList == [45, 102]) = false := (op_eq 115 102).trans (by decide)
  have o100 : ((b2 45 115).toList == [45, 100]) = false := (op_eq 115 100).trans (by decide)
  have o99 : ((b2 45 115).toList == [45, 99]) = false := (op_eq 115 99).trans (by decide)
  have o115 : ((b2 45 115).toList == [45, 115]) = true := (op_eq 115 115).trans (by decide)
  have o114 : ((b2 45 115).toList == [45, 114]) = false := (op_eq 115 114).trans (by decide)
  have o119 : ((b2 45 115).toList == [45, 119]) = false := (op_eq 115 119).trans (by decide)
  have o120 : ((b2 45 115).toList == [45, 120]) = false := (op_eq 115 120).trans (by decide)
  have hmf : ∀ (fn : Fn) (first cap : Array Value) (w : World), (Instr.makeFunc fn first cap).run Tryd.prog w = .ok (.func fn first cap) w := fun _ _ _ _ => rfl
  have HC := Lib.hid hcell
  have HB0 := Lib.hid hb0
  have HF := Lib.hid hF
  clear hcell hb0 hF
  go_enter Tryd.func23, Tryd.ntmps23
  go_wp2_with fail
  refine HI.out.mono ?_
  rintro e w1 ⟨rfl, hb1⟩
  have hx1 : w1.cell? ⟨w.heap.size, 0, none⟩ = some (.string x) := by
    rw [hb1.cell (p := ⟨w.heap.size, 0, none⟩) (World.block_lt_of_cell? _ _ HC.out)]; exact HC.out
  have HB1 := Lib.hid (HB0.out.trans (hb1.mono HB0.out.size))
  clear hb1
  cases hf : fs.find? (fun f => decide (f.path = x)) with
  | none =>
    have hi := findI_none x fs 0 hf
    rw [hi]
    have HR : Hid (oneS (b2 45 115) x fs = .inr x) := Lib.hid (by rw [HS.out, hf])
    clear hf hi
    go_wp2
    exact ⟨rfl, by rw [HR.out]; rfl, HB1.out⟩
  | some f =>
    obtain ⟨k, hk, hfk, hi⟩ := findI_some x f fs 0 hf
    have hi2 : findI x fs 0 = (k : Int) := by rw [show (0 : Int) = ((0 : Nat) : Int) from rfl, hi]; congr 1; omega
    rw [hi2]
    have HR : Hid (oneS (b2 45 115) x fs = .inl (truthN (f.is && sayS 115 f))) := Lib.hid (by rw [HS.out, hf])
    obtain ⟨a, cap, rfl, hcc⟩ := HF.out
    obtain ⟨b, off, rfl, hfc⟩ := InF.fc HF.out HB1.out hk
    rw [hfk] at hfc
    obtain ⟨g0, g1, g2, g3, g4, g5, g6, g7, g8, g9, g10⟩ := hfc
    have hk1 : (k : Int) < fs.length := by omega
    have hk2 : (0 : Int) ≤ k := by omega
    have hn1 : (fs.length : Int) ≤ 140737488355328 := by omega
    clear hf hi hi2 hcc hn hk hfk hx1
    obtain ⟨fi, hfi⟩ : ∃ fi, f.is = fi := ⟨_, rfl⟩
    rw [hfi] at g1 HR
    clear hfi
    cases fi with
    | false =>
      go_wp2_with fail
      refine (truth_any _ _).mono ?_
      rintro e w2 ⟨rfl, rfl⟩
      go_wp2
      go_ret
      exact ⟨by rw [HR.out]; rfl, HB1.out.alloc HB1.out.size _⟩
    | true =>
      go_wp2_with fail
      refine (truth_any _ _).mono ?_
      rintro e w2 ⟨rfl, rfl⟩
      go_wp2
      go_ret
      exact ⟨by rw [HR.out]; rfl, HB1.out.alloc HB1.out.size _⟩
set_option maxHeartbeats 4000000 in
set_option maxRecDepth 100000 in
theorem one_114 (x : ByteArray) (v : Value) (fs : List FactS) (w : World) (hF : InF w v fs) (hn : fs.length ≤ 140737488355328) :
    Calls Tryd.prog 23 #[.string (b2 45 114), .string x, v] w (TP (oneS (b2 45 114) x fs) w) := by
  have hcell : (w.alloc (.cells #[.string x] 9)).cell? ⟨w.heap.size, 0, none⟩ = some (.string x) := heap_cell (at_new w _) 0
  have hb0 : Below w.heap.size w (w.alloc (.cells #[.string x] 9)) := (Below.refl _ _).alloc (Nat.le_refl _) _
  have HI := Lib.hid (index_any v fs w.heap.size x (w.alloc (.cells #[.string x] 9)) (hF.below hb0) hn hcell)
  have HS := Lib.hid (oneS_file (c := 114) (by decide) x fs)
  have o110 : ((b2 45 114).toList == [45, 110]) = false := (op_eq 114 110).trans (by decide)
  have o122 : ((b2 45 114).toList == [45, 122]) = false := (op_eq 114 122).trans (by decide)
  have o101 : ((b2 45 114).toList == [45, 101]) = false := (op_eq 114 101).trans (by decide)
  have o102 : ((b2 45 114).toList == [45, 102]) = false := (op_eq 114 102).trans (by decide)
  have o100 : ((b2 45 114).toList == [45, 100]) = false := (op_eq 114 100).trans (by decide)
  have o99 : ((b2 45 114).toList == [45, 99]) = false := (op_eq 114 99).trans (by decide)
  have o115 : ((b2 45 114).toList == [45, 115]) = false := (op_eq 114 115).trans (by decide)
  have o114 : ((b2 45 114).toList == [45, 114]) = true := (op_eq 114 114).trans (by decide)
  have o119 : ((b2 45 114).toList == [45, 119]) = false := (op_eq 114 119).trans (by decide)
  have o120 : ((b2 45 114).toList == [45, 120]) = false := (op_eq 114 120).trans (by decide)
  have hmf : ∀ (fn : Fn) (first cap : Array Value) (w : World), (Instr.makeFunc fn first cap).run Tryd.prog w = .ok (.func fn first cap) w := fun _ _ _ _ => rfl
  have HC := Lib.hid hcell
  have HB0 := Lib.hid hb0
  have HF := Lib.hid hF
  clear hcell hb0 hF
  go_enter Tryd.func23, Tryd.ntmps23
  go_wp2_with fail
  refine HI.out.mono ?_
  rintro e w1 ⟨rfl, hb1⟩
  have hx1 : w1.cell? ⟨w.heap.size, 0, none⟩ = some (.string x) := by
    rw [hb1.cell (p := ⟨w.heap.size, 0, none⟩) (World.block_lt_of_cell? _ _ HC.out)]; exact HC.out
  have HB1 := Lib.hid (HB0.out.trans (hb1.mono HB0.out.size))
  clear hb1
  cases hf : fs.find? (fun f => decide (f.path = x)) with
  | none =>
    have hi := findI_none x fs 0 hf
    rw [hi]
    have HR : Hid (oneS (b2 45 114) x fs = .inr x) := Lib.hid (by rw [HS.out, hf])
    clear hf hi
    go_wp2
    exact ⟨rfl, by rw [HR.out]; rfl, HB1.out⟩
  | some f =>
    obtain ⟨k, hk, hfk, hi⟩ := findI_some x f fs 0 hf
    have hi2 : findI x fs 0 = (k : Int) := by rw [show (0 : Int) = ((0 : Nat) : Int) from rfl, hi]; congr 1; omega
    rw [hi2]
    have HR : Hid (oneS (b2 45 114) x fs = .inl (truthN (f.is && sayS 114 f))) := Lib.hid (by rw [HS.out, hf])
    obtain ⟨a, cap, rfl, hcc⟩ := HF.out
    obtain ⟨b, off, rfl, hfc⟩ := InF.fc HF.out HB1.out hk
    rw [hfk] at hfc
    obtain ⟨g0, g1, g2, g3, g4, g5, g6, g7, g8, g9, g10⟩ := hfc
    have hk1 : (k : Int) < fs.length := by omega
    have hk2 : (0 : Int) ≤ k := by omega
    have hn1 : (fs.length : Int) ≤ 140737488355328 := by omega
    clear hf hi hi2 hcc hn hk hfk hx1
    obtain ⟨fi, hfi⟩ : ∃ fi, f.is = fi := ⟨_, rfl⟩
    rw [hfi] at g1 HR
    clear hfi
    cases fi with
    | false =>
      go_wp2_with fail
      refine (truth_any _ _).mono ?_
      rintro e w2 ⟨rfl, rfl⟩
      go_wp2
      go_ret
      exact ⟨by rw [HR.out]; rfl, HB1.out.alloc HB1.out.size _⟩
    | true =>
      go_wp2_with fail
      refine (truth_any _ _).mono ?_
      rintro e w2 ⟨rfl, rfl⟩
      go_wp2
      go_ret
      exact ⟨by rw [HR.out]; rfl, HB1.out.alloc HB1.out.size _⟩
set_option maxHeartbeats 4000000 in
set_option maxRecDepth 100000 in
theorem one_119 (x : ByteArray) (v : Value) (fs : List FactS) (w : World) (hF : InF w v fs) (hn : fs.length ≤ 140737488355328) :
    Calls Tryd.prog 23 #[.string (b2 45 119), .string x, v] w (TP (oneS (b2 45 119) x fs) w) := by
  have hcell : (w.alloc (.cells #[.string x] 9)).cell? ⟨w.heap.size, 0, none⟩ = some (.string x) := heap_cell (at_new w _) 0
  have hb0 : Below w.heap.size w (w.alloc (.cells #[.string x] 9)) := (Below.refl _ _).alloc (Nat.le_refl _) _
  have HI := Lib.hid (index_any v fs w.heap.size x (w.alloc (.cells #[.string x] 9)) (hF.below hb0) hn hcell)
  have HS := Lib.hid (oneS_file (c := 119) (by decide) x fs)
  have o110 : ((b2 45 119).toList == [45, 110]) = false := (op_eq 119 110).trans (by decide)
  have o122 : ((b2 45 119).toList == [45, 122]) = false := (op_eq 119 122).trans (by decide)
  have o101 : ((b2 45 119).toList == [45, 101]) = false := (op_eq 119 101).trans (by decide)
  have o102 : ((b2 45 119).toList == [45, 102]) = false := (op_eq 119 102).trans (by decide)
  have o100 : ((b2 45 119).toList == [45, 100]) = false := (op_eq 119 100).trans (by decide)
  have o99 : ((b2 45 119).toList == [45, 99]) = false := (op_eq 119 99).trans (by decide)
  have o115 : ((b2 45 119).toList == [45, 115]) = false := (op_eq 119 115).trans (by decide)
  have o114 : ((b2 45 119).toList == [45, 114]) = false := (op_eq 119 114).trans (by decide)
  have o119 : ((b2 45 119).toList == [45, 119]) = true := (op_eq 119 119).trans (by decide)
  have o120 : ((b2 45 119).toList == [45, 120]) = false := (op_eq 119 120).trans (by decide)
  have hmf : ∀ (fn : Fn) (first cap : Array Value) (w : World), (Instr.makeFunc fn first cap).run Tryd.prog w = .ok (.func fn first cap) w := fun _ _ _ _ => rfl
  have HC := Lib.hid hcell
  have HB0 := Lib.hid hb0
  have HF := Lib.hid hF
  clear hcell hb0 hF
  go_enter Tryd.func23, Tryd.ntmps23
  go_wp2_with fail
  refine HI.out.mono ?_
  rintro e w1 ⟨rfl, hb1⟩
  have hx1 : w1.cell? ⟨w.heap.size, 0, none⟩ = some (.string x) := by
    rw [hb1.cell (p := ⟨w.heap.size, 0, none⟩) (World.block_lt_of_cell? _ _ HC.out)]; exact HC.out
  have HB1 := Lib.hid (HB0.out.trans (hb1.mono HB0.out.size))
  clear hb1
  cases hf : fs.find? (fun f => decide (f.path = x)) with
  | none =>
    have hi := findI_none x fs 0 hf
    rw [hi]
    have HR : Hid (oneS (b2 45 119) x fs = .inr x) := Lib.hid (by rw [HS.out, hf])
    clear hf hi
    go_wp2
    exact ⟨rfl, by rw [HR.out]; rfl, HB1.out⟩
  | some f =>
    obtain ⟨k, hk, hfk, hi⟩ := findI_some x f fs 0 hf
    have hi2 : findI x fs 0 = (k : Int) := by rw [show (0 : Int) = ((0 : Nat) : Int) from rfl, hi]; congr 1; omega
    rw [hi2]
    have HR : Hid (oneS (b2 45 119) x fs = .inl (truthN (f.is && sayS 119 f))) := Lib.hid (by rw [HS.out, hf])
    obtain ⟨a, cap, rfl, hcc⟩ := HF.out
    obtain ⟨b, off, rfl, hfc⟩ := InF.fc HF.out HB1.out hk
    rw [hfk] at hfc
    obtain ⟨g0, g1, g2, g3, g4, g5, g6, g7, g8, g9, g10⟩ := hfc
    have hk1 : (k : Int) < fs.length := by omega
    have hk2 : (0 : Int) ≤ k := by omega
    have hn1 : (fs.length : Int) ≤ 140737488355328 := by omega
    clear hf hi hi2 hcc hn hk hfk hx1
    obtain ⟨fi, hfi⟩ : ∃ fi, f.is = fi := ⟨_, rfl⟩
    rw [hfi] at g1 HR
    clear hfi
    cases fi with
    | false =>
      go_wp2_with fail
      refine (truth_any _ _).mono ?_
      rintro e w2 ⟨rfl, rfl⟩
      go_wp2
      go_ret
      exact ⟨by rw [HR.out]; rfl, HB1.out.alloc HB1.out.size _⟩
    | true =>
      go_wp2_with fail
      refine (truth_any _ _).mono ?_
      rintro e w2 ⟨rfl, rfl⟩
      go_wp2
      go_ret
      exact ⟨by rw [HR.out]; rfl, HB1.out.alloc HB1.out.size _⟩
set_option maxHeartbeats 4000000 in
set_option maxRecDepth 100000 in
theorem one_120 (x : ByteArray) (v : Value) (fs : List FactS) (w : World) (hF : InF w v fs) (hn : fs.length ≤ 140737488355328) :
    Calls Tryd.prog 23 #[.string (b2 45 120), .string x, v] w (TP (oneS (b2 45 120) x fs) w) := by
  have hcell : (w.alloc (.cells #[.string x] 9)).cell? ⟨w.heap.size, 0, none⟩ = some (.string x) := heap_cell (at_new w _) 0
  have hb0 : Below w.heap.size w (w.alloc (.cells #[.string x] 9)) := (Below.refl _ _).alloc (Nat.le_refl _) _
  have HI := Lib.hid (index_any v fs w.heap.size x (w.alloc (.cells #[.string x] 9)) (hF.below hb0) hn hcell)
  have HS := Lib.hid (oneS_file (c := 120) (by decide) x fs)
  have o110 : ((b2 45 120).toList == [45, 110]) = false := (op_eq 120 110).trans (by decide)
  have o122 : ((b2 45 120).toList == [45, 122]) = false := (op_eq 120 122).trans (by decide)
  have o101 : ((b2 45 120).toList == [45, 101]) = false := (op_eq 120 101).trans (by decide)
  have o102 : ((b2 45 120).toList == [45, 102]) = false := (op_eq 120 102).trans (by decide)
  have o100 : ((b2 45 120).toList == [45, 100]) = false := (op_eq 120 100).trans (by decide)
  have o99 : ((b2 45 120).toList == [45, 99]) = false := (op_eq 120 99).trans (by decide)
  have o115 : ((b2 45 120).toList == [45, 115]) = false := (op_eq 120 115).trans (by decide)
  have o114 : ((b2 45 120).toList == [45, 114]) = false := (op_eq 120 114).trans (by decide)
  have o119 : ((b2 45 120).toList == [45, 119]) = false := (op_eq 120 119).trans (by decide)
  have o120 : ((b2 45 120).toList == [45, 120]) = true := (op_eq 120 120).trans (by decide)
  have hmf : ∀ (fn : Fn) (first cap : Array Value) (w : World), (Instr.makeFunc fn first cap).run Tryd.prog w = .ok (.func fn first cap) w := fun _ _ _ _ => rfl
  have HC := Lib.hid hcell
  have HB0 := Lib.hid hb0
  have HF := Lib.hid hF
  clear hcell hb0 hF
  go_enter Tryd.func23, Tryd.ntmps23
  go_wp2_with fail
  refine HI.out.mono ?_
  rintro e w1 ⟨rfl, hb1⟩
  have hx1 : w1.cell? ⟨w.heap.size, 0, none⟩ = some (.string x) := by
    rw [hb1.cell (p := ⟨w.heap.size, 0, none⟩) (World.block_lt_of_cell? _ _ HC.out)]; exact HC.out
  have HB1 := Lib.hid (HB0.out.trans (hb1.mono HB0.out.size))
  clear hb1
  cases hf : fs.find? (fun f => decide (f.path = x)) with
  | none =>
    have hi := findI_none x fs 0 hf
    rw [hi]
    have HR : Hid (oneS (b2 45 120) x fs = .inr x) := Lib.hid (by rw [HS.out, hf])
    clear hf hi
    go_wp2
    exact ⟨rfl, by rw [HR.out]; rfl, HB1.out⟩
  | some f =>
    obtain ⟨k, hk, hfk, hi⟩ := findI_some x f fs 0 hf
    have hi2 : findI x fs 0 = (k : Int) := by rw [show (0 : Int) = ((0 : Nat) : Int) from rfl, hi]; congr 1; omega
    rw [hi2]
    have HR : Hid (oneS (b2 45 120) x fs = .inl (truthN (f.is && sayS 120 f))) := Lib.hid (by rw [HS.out, hf])
    obtain ⟨a, cap, rfl, hcc⟩ := HF.out
    obtain ⟨b, off, rfl, hfc⟩ := InF.fc HF.out HB1.out hk
    rw [hfk] at hfc
    obtain ⟨g0, g1, g2, g3, g4, g5, g6, g7, g8, g9, g10⟩ := hfc
    have hk1 : (k : Int) < fs.length := by omega
    have hk2 : (0 : Int) ≤ k := by omega
    have hn1 : (fs.length : Int) ≤ 140737488355328 := by omega
    clear hf hi hi2 hcc hn hk hfk hx1
    obtain ⟨fi, hfi⟩ : ∃ fi, f.is = fi := ⟨_, rfl⟩
    rw [hfi] at g1 HR
    clear hfi
    cases fi with
    | false =>
      go_wp2_with fail
      refine (truth_any _ _).mono ?_
      rintro e w2 ⟨rfl, rfl⟩
      go_wp2
      go_ret
      exact ⟨by rw [HR.out]; rfl, HB1.out.alloc HB1.out.size _⟩
    | true =>
      go_wp2_with fail
      refine (truth_any _ _).mono ?_
      rintro e w2 ⟨rfl, rfl⟩
      go_wp2
      go_ret
      exact ⟨by rw [HR.out]; rfl, HB1.out.alloc HB1.out.size _⟩
theorem one_110 (x : ByteArray) (v : Value) (fs : List FactS) (w : World) : Calls Tryd.prog 23 #[.string (b2 45 110), .string x, v] w (TP (oneS (b2 45 110) x fs) w) := by
  have hcell : (w.alloc (.cells #[.string x] 9)).cell? ⟨w.heap.size, 0, none⟩ = some (.string x) := heap_cell (at_new w _) 0
  have hb0 : Below w.heap.size w (w.alloc (.cells #[.string x] 9)) := (Below.refl _ _).alloc (Nat.le_refl _) _
  have HR : Hid (oneS (b2 45 110) x fs = .inl (truthN (!decide (x.size = 0)))) := Lib.hid rfl
  have he := is_empty x
  generalize decide (x.size = 0) = q at *
  have o110 : ((b2 45 110).toList == [45, 110]) = true := (op_eq 110 110).trans (by decide)
  have o122 : ((b2 45 110).toList == [45, 122]) = false := (op_eq 110 122).trans (by decide)
  have o101 : ((b2 45 110).toList == [45, 101]) = false := (op_eq 110 101).trans (by decide)
  have o102 : ((b2 45 110).toList == [45, 102]) = false := (op_eq 110 102).trans (by decide)
  have o100 : ((b2 45 110).toList == [45, 100]) = false := (op_eq 110 100).trans (by decide)
  have o99 : ((b2 45 110).toList == [45, 99]) = false := (op_eq 110 99).trans (by decide)
  have o115 : ((b2 45 110).toList == [45, 115]) = false := (op_eq 110 115).trans (by decide)
  have o114 : ((b2 45 110).toList == [45, 114]) = false := (op_eq 110 114).trans (by decide)
  have o119 : ((b2 45 110).toList == [45, 119]) = false := (op_eq 110 119).trans (by decide)
  have o120 : ((b2 45 110).toList == [45, 120]) = false := (op_eq 110 120).trans (by decide)
  have HB0 := Lib.hid hb0
  clear hb0
  go_enter Tryd.func23, Tryd.ntmps23
  go_wp2_with fail
  refine (truth_any _ _).mono ?_
  rintro e w2 ⟨rfl, rfl⟩
  go_wp2
  go_ret
  exact ⟨by rw [HR.out]; rfl, HB0.out⟩
theorem one_122 (x : ByteArray) (v : Value) (fs : List FactS) (w : World) : Calls Tryd.prog 23 #[.string (b2 45 122), .string x, v] w (TP (oneS (b2 45 122) x fs) w) := by
  have hcell : (w.alloc (.cells #[.string x] 9)).cell? ⟨w.heap.size, 0, none⟩ = some (.string x) := heap_cell (at_new w _) 0
  have hb0 : Below w.heap.size w (w.alloc (.cells #[.string x] 9)) := (Below.refl _ _).alloc (Nat.le_refl _) _
  have HR : Hid (oneS (b2 45 122) x fs = .inl (truthN (decide (x.size = 0)))) := Lib.hid rfl
  have he := is_empty x
  generalize decide (x.size = 0) = q at *
  have o110 : ((b2 45 122).toList == [45, 110]) = false := (op_eq 122 110).trans (by decide)
  have o122 : ((b2 45 122).toList == [45, 122]) = true := (op_eq 122 122).trans (by decide)
  have o101 : ((b2 45 122).toList == [45, 101]) = false := (op_eq 122 101).trans (by decide)
  have o102 : ((b2 45 122).toList == [45, 102]) = false := (op_eq 122 102).trans (by decide)
  have o100 : ((b2 45 122).toList == [45, 100]) = false := (op_eq 122 100).trans (by decide)
  have o99 : ((b2 45 122).toList == [45, 99]) = false := (op_eq 122 99).trans (by decide)
  have o115 : ((b2 45 122).toList == [45, 115]) = false := (op_eq 122 115).trans (by decide)
  have o114 : ((b2 45 122).toList == [45, 114]) = false := (op_eq 122 114).trans (by decide)
  have o119 : ((b2 45 122).toList == [45, 119]) = false := (op_eq 122 119).trans (by decide)
  have o120 : ((b2 45 122).toList == [45, 120]) = false := (op_eq 122 120).trans (by decide)
  have HB0 := Lib.hid hb0
  clear hb0
  go_enter Tryd.func23, Tryd.ntmps23
  go_wp2_with fail
  refine (truth_any _ _).mono ?_
  rintro e w2 ⟨rfl, rfl⟩
  go_wp2
  go_ret
  exact ⟨by rw [HR.out]; rfl, HB0.out⟩
theorem one_none (op x : ByteArray) (v : Value) (fs : List FactS) (w : World) (h1 : ¬ op = b2 45 110) (h2 : ¬ op = b2 45 122) (h3 : fileOp op = false) : Calls Tryd.prog 23 #[.string op, .string x, v] w (TP (oneS op x fs) w) := by
  have hb0 : Below w.heap.size w (w.alloc (.cells #[.string x] 9)) := (Below.refl _ _).alloc (Nat.le_refl _) _
  have HR : Hid (oneS op x fs = .inl 2) := Lib.hid (by unfold oneS; rw [if_neg h1, if_neg h2, h3]; rfl)
  have o110 : (op.toList == [45, 110]) = false := ne_const h1
  have o122 : (op.toList == [45, 122]) = false := ne_const h2
  have o101 := notFile h3 101 (by decide)
  have o102 := notFile h3 102 (by decide)
  have o100 := notFile h3 100 (by decide)
  have o99 := notFile h3 99 (by decide)
  have o115 := notFile h3 115 (by decide)
  have o114 := notFile h3 114 (by decide)
  have o119 := notFile h3 119 (by decide)
  have o120 := notFile h3 120 (by decide)
  have HB0 := Lib.hid hb0
  clear hb0 h1 h2 h3
  go_enter Tryd.func23, Tryd.ntmps23
  go_wp2
  go_ret
  exact ⟨by rw [HR.out]; rfl, HB0.out⟩
theorem one_any (op x : ByteArray) (v : Value) (fs : List FactS) (w : World) (hF : InF w v fs) (hn : fs.length ≤ 140737488355328) : Calls Tryd.prog 23 #[.string op, .string x, v] w (TP (oneS op x fs) w) := by
  by_cases k1 : op = b2 45 110
  · subst k1; exact one_110 x v fs w
  by_cases k2 : op = b2 45 122
  · subst k2; exact one_122 x v fs w
  by_cases k101 : op = b2 45 101
  · subst k101; exact one_101 x v fs w hF hn
  by_cases k102 : op = b2 45 102
  · subst k102; exact one_102 x v fs w hF hn
  by_cases k100 : op = b2 45 100
  · subst k100; exact one_100 x v fs w hF hn
  by_cases k99 : op = b2 45 99
  · subst k99; exact one_99 x v fs w hF hn
  by_cases k115 : op = b2 45 115
  · subst k115; exact one_115 x v fs w hF hn
  by_cases k114 : op = b2 45 114
  · subst k114; exact one_114 x v fs w hF hn
  by_cases k119 : op = b2 45 119
  · subst k119; exact one_119 x v fs w hF hn
  by_cases k120 : op = b2 45 120
  · subst k120; exact one_120 x v fs w hF hn
  exact one_none op x v fs w k1 k2 (by unfold fileOp; simp [k101, k102, k100, k99, k115, k114, k119, k120])
end Go.Proofs.YthomdgejbkcljaaDoor
