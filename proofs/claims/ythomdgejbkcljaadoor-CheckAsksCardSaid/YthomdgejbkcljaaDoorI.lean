/- Operators of one: the document's, whole. -/
import Derived.Test.YthomdgejbkcljaaDoorH
namespace Go.Proofs.YthomdgejbkcljaaDoor
open Go.RowKit

theorem told_lit (t : Told) : ∃ (n : Int) (p : ByteArray) (b : Bool), told t = toldV n p b := by
  cases t with
  | inl n => exact ⟨n, noB, false, rfl⟩
  | inr x => exact ⟨0, x, true, rfl⟩
/-- A callee's answer, stored as one's own. -/
theorem ans {t : Told} {w W1 w2 : World} {e : Ending} (HI : IsT W1 w.heap.size 0 noB false) (HB : Below w.heap.size w W1) (h : RT (told t) W1 e w2) :
    ∃ (n : Int) (p : ByteArray) (b : Bool), told t = toldV n p b ∧ e = .returned (toldV n p b) ∧ IsT w2 w.heap.size 0 noB false ∧ Below w.heap.size w w2 := by
  obtain ⟨n, p, b, ht⟩ := told_lit t
  obtain ⟨rfl, hb⟩ := h
  exact ⟨n, p, b, ht, by rw [ht], cell_still (w := w) HI hb, HB.trans (hb.mono HB.size)⟩
set_option maxRecDepth 100000 in
theorem rone_101 (x : ByteArray) (v : Value) (fs : List FactS) (w : World) (hF : InF w v fs) (hn : fs.length ≤ 140737488355328) : Calls Tryd.prog 18 #[.string (b2 45 101), .string x, v] w (RT (told (oneS (b2 45 101) x fs)) w) := by
  have HI := Lib.hid (new_told w)
  have HB := Lib.hid (new_below w)
  have o110 : ((b2 45 101).toList == [45, 110]) = false := (op_eq 101 110).trans (by decide)
  have o122 : ((b2 45 101).toList == [45, 122]) = false := (op_eq 101 122).trans (by decide)
  have o101 : ((b2 45 101).toList == [45, 101]) = true := (op_eq 101 101).trans (by decide)
  have o102 : ((b2 45 101).toList == [45, 102]) = false := (op_eq 101 102).trans (by decide)
  have o100 : ((b2 45 101).toList == [45, 100]) = false := (op_eq 101 100).trans (by decide)
  have o99 : ((b2 45 101).toList == [45, 99]) = false := (op_eq 101 99).trans (by decide)
  have o115 : ((b2 45 101).toList == [45, 115]) = false := (op_eq 101 115).trans (by decide)
  have o114 : ((b2 45 101).toList == [45, 114]) = false := (op_eq 101 114).trans (by decide)
  have o119 : ((b2 45 101).toList == [45, 119]) = false := (op_eq 101 119).trans (by decide)
  have o120 : ((b2 45 101).toList == [45, 120]) = false := (op_eq 101 120).trans (by decide)
  have HR := Lib.hid (oneS_of (c := 101) (by decide) x fs)
  have HC : Hid (∀ W, W = w.alloc (Obj.cells #[.int .i64 0, .string noB, .bool false] 28) → Calls Tryd.prog 24 #[.string (b2 45 101), .string x, v] W (RT (told (ofS 101 x fs)) W)) := Lib.hid (fun W hW => by
    subst hW
    exact of_101 x v fs _ (hF.below (new_below w)) hn)
  clear hF hn
  go_enter Tryd.func18, Tryd.ntmps18
  go_wp2_with fail
  refine (HC.out _ rfl).mono ?_
  rintro e w2 hh
  obtain ⟨n, p, b, ht, rfl, hi, hb⟩ := ans HI.out HB.out hh
  have HI2 := Lib.hid hi
  have HT := Lib.hid ht
  have c0 := heap_cell hi 0
  have c1 := heap_cell hi 1
  have c2 := heap_cell hi 2
  have f0 := heap_free hi 0
  have f1 := heap_free hi 1
  have f2 := heap_free hi 2
  clear hi hh ht
  go_wp2
  exact leave18 w.heap.size rfl (put3 HI2.out _ _ _) ⟨by rw [HR.out, HT.out], below3 hb (Nat.le_refl _) _ _ _⟩
set_option maxRecDepth 100000 in
theorem rone_102 (x : ByteArray) (v : Value) (fs : List FactS) (w : World) (hF : InF w v fs) (hn : fs.length ≤ 140737488355328) : Calls Tryd.prog 18 #[.string (b2 45 102), .string x, v] w (RT (told (oneS (b2 45 102) x fs)) w) := by
  have HI := Lib.hid (new_told w)
  have HB := Lib.hid (new_below w)
  have o110 : ((b2 45 102).toList == [45, 110]) = false := (op_eq 102 110).trans (by decide)
  have o122 : ((b2 45 102).toList == [45, 122]) = false := (op_eq 102 122).trans (by decide)
  have o101 : ((b2 45 102).toList == [45, 101]) = false := (op_eq 102 101).trans (by decide)
  have o102 : ((b2 45 102).toList == [45, 102]) = true := (op_eq 102 102).trans (by decide)
  have o100 : ((b2 45 102).toList == [45, 100]) = false := (op_eq 102 100).trans (by decide)
  have o99 : ((b2 45 102).toList == [45, 99]) = false := (op_eq 102 99).trans (by decide)
  have o115 : ((b2 45 102).toList == [45, 115]) = false := (op_eq 102 115).trans (by decide)
  have o114 : ((b2 45 102).toList == [45, 114]) = false := (op_eq 102 114).trans (by decide)
  have o119 : ((b2 45 102).toList == [45, 119]) = false := (op_eq 102 119).trans (by decide)
  have o120 : ((b2 45 102).toList == [45, 120]) = false := (op_eq 102 120).trans (by decide)
  have HR := Lib.hid (oneS_of (c := 102) (by decide) x fs)
  have HC : Hid (∀ W, W = w.alloc (Obj.cells #[.int .i64 0, .string noB, .bool false] 28) → Calls Tryd.prog 24 #[.string (b2 45 102), .string x, v] W (RT (told (ofS 102 x fs)) W)) := Lib.hid (fun W hW => by
    subst hW
    exact of_102 x v fs _ (hF.below (new_below w)) hn)
  clear hF hn
  go_enter Tryd.func18, Tryd.ntmps18
  go_wp2_with fail
  refine (HC.out _ rfl).mono ?_
  rintro e w2 hh
  obtain ⟨n, p, b, ht, rfl, hi, hb⟩ := ans HI.out HB.out hh
  have HI2 := Lib.hid hi
  have HT := Lib.hid ht
  have c0 := heap_cell hi 0
  have c1 := heap_cell hi 1
  have c2 := heap_cell hi 2
  have f0 := heap_free hi 0
  have f1 := heap_free hi 1
  have f2 := heap_free hi 2
  clear hi hh ht
  go_wp2
  exact leave18 w.heap.size rfl (put3 HI2.out _ _ _) ⟨by rw [HR.out, HT.out], below3 hb (Nat.le_refl _) _ _ _⟩
set_option maxRecDepth 100000 in
theorem rone_100 (x : ByteArray) (v : Value) (fs : List FactS) (w : World) (hF : InF w v fs) (hn : fs.length ≤ 140737488355328) : Calls Tryd.prog 18 #[.string (b2 45 100), .string x, v] w (RT (told (oneS (b2 45 100) x fs)) w) := by
  have HI := Lib.hid (new_told w)
  have HB := Lib.hid (new_below w)
  have o110 : ((b2 45 100).toList == [45, 110]) = false := (op_eq 100 110).trans (by decide)
  have o122 : ((b2 45 100).toList == [45, 122]) = false := (op_eq 100 122).trans (by decide)
  have o101 : ((b2 45 100).toList == [45, 101]) = false := (op_eq 100 101).trans (by decide)
  have o102 : ((b2 45 100).toList == [45, 102]) = false := (op_eq 100 102).trans (by decide)
  have o100 : ((b2 45 100).toList == [45, 100]) = true := (op_eq 100 100).trans (by decide)
  have o99 : ((b2 45 100).toList == [45, 99]) = false := (op_eq 100 99).trans (by decide)
  have o115 : ((b2 45 100).toList == [45, 115]) = false := (op_eq 100 115).trans (by decide)
  have o114 : ((b2 45 100).toList == [45, 114]) = false := (op_eq 100 114).trans (by decide)
  have o119 : ((b2 45 100).toList == [45, 119]) = false := (op_eq 100 119).trans (by decide)
  have o120 : ((b2 45 100).toList == [45, 120]) = false := (op_eq 100 120).trans (by decide)
  have HR := Lib.hid (oneS_of (c := 100) (by decide) x fs)
  have HC : Hid (∀ W, W = w.alloc (Obj.cells #[.int .i64 0, .string noB, .bool false] 28) → Calls Tryd.prog 24 #[.string (b2 45 100), .string x, v] W (RT (told (ofS 100 x fs)) W)) := Lib.hid (fun W hW => by
    subst hW
    exact of_100 x v fs _ (hF.below (new_below w)) hn)
  clear hF hn
  go_enter Tryd.func18, Tryd.ntmps18
  go_wp2_with fail
  refine (HC.out _ rfl).mono ?_
  rintro e w2 hh
  obtain ⟨n, p, b, ht, rfl, hi, hb⟩ := ans HI.out HB.out hh
  have HI2 := Lib.hid hi
  have HT := Lib.hid ht
  have c0 := heap_cell hi 0
  have c1 := heap_cell hi 1
  have c2 := heap_cell hi 2
  have f0 := heap_free hi 0
  have f1 := heap_free hi 1
  have f2 := heap_free hi 2
  clear hi hh ht
  go_wp2
  exact leave18 w.heap.size rfl (put3 HI2.out _ _ _) ⟨by rw [HR.out, HT.out], below3 hb (Nat.le_refl _) _ _ _⟩
set_option maxRecDepth 100000 in
theorem rone_99 (x : ByteArray) (v : Value) (fs : List FactS) (w : World) (hF : InF w v fs) (hn : fs.length ≤ 140737488355328) : Calls Tryd.prog 18 #[.string (b2 45 99), .string x, v] w (RT (told (oneS (b2 45 99) x fs)) w) := by
  have HI := Lib.hid (new_told w)
  have HB := Lib.hid (new_below w)
  have o110 : ((b2 45 99).toList == [45, 110]) = false := (op_eq 99 110).trans (by decide)
  have o122 : ((b2 45 99).toList == [45, 122]) = false := (op_eq 99 122).trans (by decide)
  have o101 : ((b2 45 99).toList == [45, 101]) = false := (op_eq 99 101).trans (by decide)
  have o102 : ((b2 45 99).toList == [45, 102]) = false := (op_eq 99 102).trans (by decide)
  have o100 : ((b2 45 99).toList == [45, 100]) = false := (op_eq 99 100).trans (by decide)
  have o99 : ((b2 45 99).toList == [45, 99]) = true := (op_eq 99 99).trans (by decide)
  have o115 : ((b2 45 99).toList == [45, 115]) = false := (op_eq 99 115).trans (by decide)
  have o114 : ((b2 45 99).toList == [45, 114]) = false := (op_eq 99 114).trans (by decide)
  have o119 : ((b2 45 99).toList == [45, 119]) = false := (op_eq 99 119).trans (by decide)
  have o120 : ((b2 45 99).toList == [45, 120]) = false := (op_eq 99 120).trans (by decide)
  have HR := Lib.hid (oneS_of (c := 99) (by decide) x fs)
  have HC : Hid (∀ W, W = w.alloc (Obj.cells #[.int .i64 0, .string noB, .bool false] 28) → Calls Tryd.prog 24 #[.string (b2 45 99), .string x, v] W (RT (told (ofS 99 x fs)) W)) := Lib.hid (fun W hW => by
    subst hW
    exact of_99 x v fs _ (hF.below (new_below w)) hn)
  clear hF hn
  go_enter Tryd.func18, Tryd.ntmps18
  go_wp2_with fail
  refine (HC.out _ rfl).mono ?_
  rintro e w2 hh
  obtain ⟨n, p, b, ht, rfl, hi, hb⟩ := ans HI.out HB.out hh
  have HI2 := Lib.hid hi
  have HT := Lib.hid ht
  have c0 := heap_cell hi 0
  have c1 := heap_cell hi 1
  have c2 := heap_cell hi 2
  have f0 := heap_free hi 0
  have f1 := heap_free hi 1
  have f2 := heap_free hi 2
  clear hi hh ht
  go_wp2
  exact leave18 w.heap.size rfl (put3 HI2.out _ _ _) ⟨by rw [HR.out, HT.out], below3 hb (Nat.le_refl _) _ _ _⟩
set_option maxRecDepth 100000 in
theorem rone_115 (x : ByteArray) (v : Value) (fs : List FactS) (w : World) (hF : InF w v fs) (hn : fs.length ≤ 140737488355328) : Calls Tryd.prog 18 #[.string (b2 45 115), .string x, v] w (RT (told (oneS (b2 45 115) x fs)) w) := by
  have HI := Lib.hid (new_told w)
  have HB := Lib.hid (new_below w)
  have o110 : ((b2 45 115).toList == [45, 110]) = false := (op_eq 115 110).trans (by decide)
  have o122 : ((b2 45 115).toList == [45, 122]) = false := (op_eq 115 122).trans (by decide)
  have o101 : ((b2 45 115).toList == [45, 101]) = false := (op_eq 115 101).trans (by decide)
  have o102 : ((b2 45 115).toList == [45, 102]) = false := (op_eq 115 102).trans (by decide)
  have o100 : ((b2 45 115).toList == [45, 100]) = false := (op_eq 115 100).trans (by decide)
  have o99 : ((b2 45 115).toList == [45, 99]) = false := (op_eq 115 99).trans (by decide)
  have o115 : ((b2 45 115).toList == [45, 115]) = true := (op_eq 115 115).trans (by decide)
  have o114 : ((b2 45 115).toList == [45, 114]) = false := (op_eq 115 114).trans (by decide)
  have o119 : ((b2 45 115).toList == [45, 119]) = false := (op_eq 115 119).trans (by decide)
  have o120 : ((b2 45 115).toList == [45, 120]) = false := (op_eq 115 120).trans (by decide)
  have HR := Lib.hid (oneS_of (c := 115) (by decide) x fs)
  have HC : Hid (∀ W, W = w.alloc (Obj.cells #[.int .i64 0, .string noB, .bool false] 28) → Calls Tryd.prog 24 #[.string (b2 45 115), .string x, v] W (RT (told (ofS 115 x fs)) W)) := Lib.hid (fun W hW => by
    subst hW
    exact of_115 x v fs _ (hF.below (new_below w)) hn)
  clear hF hn
  go_enter Tryd.func18, Tryd.ntmps18
  go_wp2_with fail
  refine (HC.out _ rfl).mono ?_
  rintro e w2 hh
  obtain ⟨n, p, b, ht, rfl, hi, hb⟩ := ans HI.out HB.out hh
  have HI2 := Lib.hid hi
  have HT := Lib.hid ht
  have c0 := heap_cell hi 0
  have c1 := heap_cell hi 1
  have c2 := heap_cell hi 2
  have f0 := heap_free hi 0
  have f1 := heap_free hi 1
  have f2 := heap_free hi 2
  clear hi hh ht
  go_wp2
  exact leave18 w.heap.size rfl (put3 HI2.out _ _ _) ⟨by rw [HR.out, HT.out], below3 hb (Nat.le_refl _) _ _ _⟩
set_option maxRecDepth 100000 in
theorem rone_114 (x : ByteArray) (v : Value) (fs : List FactS) (w : World) (hF : InF w v fs) (hn : fs.length ≤ 140737488355328) : Calls Tryd.prog 18 #[.string (b2 45 114), .string x, v] w (RT (told (oneS (b2 45 114) x fs)) w) := by
  have HI := Lib.hid (new_told w)
  have HB := Lib.hid (new_below w)
  have o110 : ((b2 45 114).toList == [45, 110]) = false := (op_eq 114 110).trans (by decide)
  have o122 : ((b2 45 114).toList == [45, 122]) = false := (op_eq 114 122).trans (by decide)
  have o101 : ((b2 45 114).toList == [45, 101]) = false := (op_eq 114 101).trans (by decide)
  have o102 : ((b2 45 114).toList == [45, 102]) = false := (op_eq 114 102).trans (by decide)
  have o100 : ((b2 45 114).toList == [45, 100]) = false := (op_eq 114 100).trans (by decide)
  have o99 : ((b2 45 114).toList == [45, 99]) = false := (op_eq 114 99).trans (by decide)
  have o115 : ((b2 45 114).toList == [45, 115]) = false := (op_eq 114 115).trans (by decide)
  have o114 : ((b2 45 114).toList == [45, 114]) = true := (op_eq 114 114).trans (by decide)
  have o119 : ((b2 45 114).toList == [45, 119]) = false := (op_eq 114 119).trans (by decide)
  have o120 : ((b2 45 114).toList == [45, 120]) = false := (op_eq 114 120).trans (by decide)
  have HR := Lib.hid (oneS_of (c := 114) (by decide) x fs)
  have HC : Hid (∀ W, W = w.alloc (Obj.cells #[.int .i64 0, .string noB, .bool false] 28) → Calls Tryd.prog 24 #[.string (b2 45 114), .string x, v] W (RT (told (ofS 114 x fs)) W)) := Lib.hid (fun W hW => by
    subst hW
    exact of_114 x v fs _ (hF.below (new_below w)) hn)
  clear hF hn
  go_enter Tryd.func18, Tryd.ntmps18
  go_wp2_with fail
  refine (HC.out _ rfl).mono ?_
  rintro e w2 hh
  obtain ⟨n, p, b, ht, rfl, hi, hb⟩ := ans HI.out HB.out hh
  have HI2 := Lib.hid hi
  have HT := Lib.hid ht
  have c0 := heap_cell hi 0
  have c1 := heap_cell hi 1
  have c2 := heap_cell hi 2
  have f0 := heap_free hi 0
  have f1 := heap_free hi 1
  have f2 := heap_free hi 2
  clear hi hh ht
  go_wp2
  exact leave18 w.heap.size rfl (put3 HI2.out _ _ _) ⟨by rw [HR.out, HT.out], below3 hb (Nat.le_refl _) _ _ _⟩
set_option maxRecDepth 100000 in
theorem rone_119 (x : ByteArray) (v : Value) (fs : List FactS) (w : World) (hF : InF w v fs) (hn : fs.length ≤ 140737488355328) : Calls Tryd.prog 18 #[.string (b2 45 119), .string x, v] w (RT (told (oneS (b2 45 119) x fs)) w) := by
  have HI := Lib.hid (new_told w)
  have HB := Lib.hid (new_below w)
  have o110 : ((b2 45 119).toList == [45, 110]) = false := (op_eq 119 110).trans (by decide)
  have o122 : ((b2 45 119).toList == [45, 122]) = false := (op_eq 119 122).trans (by decide)
  have o101 : ((b2 45 119).toList == [45, 101]) = false := (op_eq 119 101).trans (by decide)
  have o102 : ((b2 45 119).toList == [45, 102]) = false := (op_eq 119 102).trans (by decide)
  have o100 : ((b2 45 119).toList == [45, 100]) = false := (op_eq 119 100).trans (by decide)
  have o99 : ((b2 45 119).toList == [45, 99]) = false := (op_eq 119 99).trans (by decide)
  have o115 : ((b2 45 119).toList == [45, 115]) = false := (op_eq 119 115).trans (by decide)
  have o114 : ((b2 45 119).toList == [45, 114]) = false := (op_eq 119 114).trans (by decide)
  have o119 : ((b2 45 119).toList == [45, 119]) = true := (op_eq 119 119).trans (by decide)
  have o120 : ((b2 45 119).toList == [45, 120]) = false := (op_eq 119 120).trans (by decide)
  have HR := Lib.hid (oneS_of (c := 119) (by decide) x fs)
  have HC : Hid (∀ W, W = w.alloc (Obj.cells #[.int .i64 0, .string noB, .bool false] 28) → Calls Tryd.prog 24 #[.string (b2 45 119), .string x, v] W (RT (told (ofS 119 x fs)) W)) := Lib.hid (fun W hW => by
    subst hW
    exact of_119 x v fs _ (hF.below (new_below w)) hn)
  clear hF hn
  go_enter Tryd.func18, Tryd.ntmps18
  go_wp2_with fail
  refine (HC.out _ rfl).mono ?_
  rintro e w2 hh
  obtain ⟨n, p, b, ht, rfl, hi, hb⟩ := ans HI.out HB.out hh
  have HI2 := Lib.hid hi
  have HT := Lib.hid ht
  have c0 := heap_cell hi 0
  have c1 := heap_cell hi 1
  have c2 := heap_cell hi 2
  have f0 := heap_free hi 0
  have f1 := heap_free hi 1
  have f2 := heap_free hi 2
  clear hi hh ht
  go_wp2
  exact leave18 w.heap.size rfl (put3 HI2.out _ _ _) ⟨by rw [HR.out, HT.out], below3 hb (Nat.le_refl _) _ _ _⟩
set_option maxRecDepth 100000 in
theorem rone_120 (x : ByteArray) (v : Value) (fs : List FactS) (w : World) (hF : InF w v fs) (hn : fs.length ≤ 140737488355328) : Calls Tryd.prog 18 #[.string (b2 45 120), .string x, v] w (RT (told (oneS (b2 45 120) x fs)) w) := by
  have HI := Lib.hid (new_told w)
  have HB := Lib.hid (new_below w)
  have o110 : ((b2 45 120).toList == [45, 110]) = false := (op_eq 120 110).trans (by decide)
  have o122 : ((b2 45 120).toList == [45, 122]) = false := (op_eq 120 122).trans (by decide)
  have o101 : ((b2 45 120).toList == [45, 101]) = false := (op_eq 120 101).trans (by decide)
  have o102 : ((b2 45 120).toList == [45, 102]) = false := (op_eq 120 102).trans (by decide)
  have o100 : ((b2 45 120).toList == [45, 100]) = false := (op_eq 120 100).trans (by decide)
  have o99 : ((b2 45 120).toList == [45, 99]) = false := (op_eq 120 99).trans (by decide)
  have o115 : ((b2 45 120).toList == [45, 115]) = false := (op_eq 120 115).trans (by decide)
  have o114 : ((b2 45 120).toList == [45, 114]) = false := (op_eq 120 114).trans (by decide)
  have o119 : ((b2 45 120).toList == [45, 119]) = false := (op_eq 120 119).trans (by decide)
  have o120 : ((b2 45 120).toList == [45, 120]) = true := (op_eq 120 120).trans (by decide)
  have HR := Lib.hid (oneS_of (c := 120) (by decide) x fs)
  have HC : Hid (∀ W, W = w.alloc (Obj.cells #[.int .i64 0, .string noB, .bool false] 28) → Calls Tryd.prog 24 #[.string (b2 45 120), .string x, v] W (RT (told (ofS 120 x fs)) W)) := Lib.hid (fun W hW => by
    subst hW
    exact of_120 x v fs _ (hF.below (new_below w)) hn)
  clear hF hn
  go_enter Tryd.func18, Tryd.ntmps18
  go_wp2_with fail
  refine (HC.out _ rfl).mono ?_
  rintro e w2 hh
  obtain ⟨n, p, b, ht, rfl, hi, hb⟩ := ans HI.out HB.out hh
  have HI2 := Lib.hid hi
  have HT := Lib.hid ht
  have c0 := heap_cell hi 0
  have c1 := heap_cell hi 1
  have c2 := heap_cell hi 2
  have f0 := heap_free hi 0
  have f1 := heap_free hi 1
  have f2 := heap_free hi 2
  clear hi hh ht
  go_wp2
  exact leave18 w.heap.size rfl (put3 HI2.out _ _ _) ⟨by rw [HR.out, HT.out], below3 hb (Nat.le_refl _) _ _ _⟩
set_option maxRecDepth 100000 in
theorem rone_110 (x : ByteArray) (v : Value) (fs : List FactS) (w : World) : Calls Tryd.prog 18 #[.string (b2 45 110), .string x, v] w (RT (told (oneS (b2 45 110) x fs)) w) := by
  have HI := Lib.hid (new_told w)
  have HB := Lib.hid (new_below w)
  have o110 : ((b2 45 110).toList == [45, 110]) = true := (op_eq 110 110).trans (by decide)
  have o122 : ((b2 45 110).toList == [45, 122]) = false := (op_eq 110 122).trans (by decide)
  have o101 : ((b2 45 110).toList == [45, 101]) = false := (op_eq 110 101).trans (by decide)
  have o102 : ((b2 45 110).toList == [45, 102]) = false := (op_eq 110 102).trans (by decide)
  have o100 : ((b2 45 110).toList == [45, 100]) = false := (op_eq 110 100).trans (by decide)
  have o99 : ((b2 45 110).toList == [45, 99]) = false := (op_eq 110 99).trans (by decide)
  have o115 : ((b2 45 110).toList == [45, 115]) = false := (op_eq 110 115).trans (by decide)
  have o114 : ((b2 45 110).toList == [45, 114]) = false := (op_eq 110 114).trans (by decide)
  have o119 : ((b2 45 110).toList == [45, 119]) = false := (op_eq 110 119).trans (by decide)
  have o120 : ((b2 45 110).toList == [45, 120]) = false := (op_eq 110 120).trans (by decide)
  have he := is_empty x
  have HR : Hid (oneS (b2 45 110) x fs = .inl (truthN (!decide (x.size = 0)))) := Lib.hid rfl
  generalize decide (x.size = 0) = q at *
  have HC : Hid (∀ W, Calls Tryd.prog 16 #[.bool (!q)] W (RT (told (.inl (truthN (!q)))) W)) := Lib.hid (fun W => rtruth_any _ W)
  go_enter Tryd.func18, Tryd.ntmps18
  go_wp2_with fail
  refine (HC.out _).mono ?_
  rintro e w2 hh
  obtain ⟨n, p, b, ht, rfl, hi, hb⟩ := ans HI.out HB.out hh
  have HI2 := Lib.hid hi
  have HT := Lib.hid ht
  have c0 := heap_cell hi 0
  have c1 := heap_cell hi 1
  have c2 := heap_cell hi 2
  have f0 := heap_free hi 0
  have f1 := heap_free hi 1
  have f2 := heap_free hi 2
  clear hi hh ht
  go_wp2
  exact leave18 w.heap.size rfl (put3 HI2.out _ _ _) ⟨by rw [HR.out, HT.out], below3 hb (Nat.le_refl _) _ _ _⟩
set_option maxRecDepth 100000 in
theorem rone_122 (x : ByteArray) (v : Value) (fs : List FactS) (w : World) : Calls Tryd.prog 18 #[.string (b2 45 122), .string x, v] w (RT (told (oneS (b2 45 122) x fs)) w) := by
  have HI := Lib.hid (new_told w)
  have HB := Lib.hid (new_below w)
  have o110 : ((b2 45 122).toList == [45, 110]) = false := (op_eq 122 110).trans (by decide)
  have o122 : ((b2 45 122).toList == [45, 122]) = true := (op_eq 122 122).trans (by decide)
  have o101 : ((b2 45 122).toList == [45, 101]) = false := (op_eq 122 101).trans (by decide)
  have o102 : ((b2 45 122).toList == [45, 102]) = false := (op_eq 122 102).trans (by decide)
  have o100 : ((b2 45 122).toList == [45, 100]) = false := (op_eq 122 100).trans (by decide)
  have o99 : ((b2 45 122).toList == [45, 99]) = false := (op_eq 122 99).trans (by decide)
  have o115 : ((b2 45 122).toList == [45, 115]) = false := (op_eq 122 115).trans (by decide)
  have o114 : ((b2 45 122).toList == [45, 114]) = false := (op_eq 122 114).trans (by decide)
  have o119 : ((b2 45 122).toList == [45, 119]) = false := (op_eq 122 119).trans (by decide)
  have o120 : ((b2 45 122).toList == [45, 120]) = false := (op_eq 122 120).trans (by decide)
  have he := is_empty x
  have HR : Hid (oneS (b2 45 122) x fs = .inl (truthN (decide (x.size = 0)))) := Lib.hid rfl
  generalize decide (x.size = 0) = q at *
  have HC : Hid (∀ W, Calls Tryd.prog 16 #[.bool (q)] W (RT (told (.inl (truthN (q)))) W)) := Lib.hid (fun W => rtruth_any _ W)
  go_enter Tryd.func18, Tryd.ntmps18
  go_wp2_with fail
  refine (HC.out _).mono ?_
  rintro e w2 hh
  obtain ⟨n, p, b, ht, rfl, hi, hb⟩ := ans HI.out HB.out hh
  have HI2 := Lib.hid hi
  have HT := Lib.hid ht
  have c0 := heap_cell hi 0
  have c1 := heap_cell hi 1
  have c2 := heap_cell hi 2
  have f0 := heap_free hi 0
  have f1 := heap_free hi 1
  have f2 := heap_free hi 2
  clear hi hh ht
  go_wp2
  exact leave18 w.heap.size rfl (put3 HI2.out _ _ _) ⟨by rw [HR.out, HT.out], below3 hb (Nat.le_refl _) _ _ _⟩
theorem rone_none (op x : ByteArray) (v : Value) (fs : List FactS) (w : World) (h1 : ¬ op = b2 45 110) (h2 : ¬ op = b2 45 122) (h3 : fileOp op = false) : Calls Tryd.prog 18 #[.string op, .string x, v] w (RT (told (oneS op x fs)) w) := by
  have HR : Hid (oneS op x fs = .inl 2) := Lib.hid (by unfold oneS; rw [if_neg h1, if_neg h2, h3]; rfl)
  have o110 : (op.toList == [45, 110]) = false := ne_const h1
  have o122 : (op.toList == [45, 122]) = false := ne_const h2
  have o101 := notFile h3 101 (by decide)
  have o102 := notFile h3 102 (by decide)
  have o100 := notFile h3 100 (by decide)
  have o99 := notFile h3 99 (by decide)
  have o115 := notFile h3 115 (by decide)
  have o114 := notFile h3 114 (by decide)
  have o119 := notFile h3 119 (by decide)
  have o120 := notFile h3 120 (by decide)
  clear h1 h2 h3
  go_enter Tryd.func18, Tryd.ntmps18
  go_wp2
  exact leave18 w.heap.size rfl (at_new _ _) ⟨by rw [HR.out]; rfl, (Below.refl _ _).alloc (Nat.le_refl _) _⟩
theorem rone_any (op x : ByteArray) (v : Value) (fs : List FactS) (w : World) (hF : InF w v fs) (hn : fs.length ≤ 140737488355328) : Calls Tryd.prog 18 #[.string op, .string x, v] w (RT (told (oneS op x fs)) w) := by
  by_cases k1 : op = b2 45 110
  · subst k1; exact rone_110 x v fs w
  by_cases k2 : op = b2 45 122
  · subst k2; exact rone_122 x v fs w
  by_cases k101 : op = b2 45 101
  · subst k101; exact rone_101 x v fs w hF hn
  by_cases k102 : op = b2 45 102
  · subst k102; exact rone_102 x v fs w hF hn
  by_cases k100 : op = b2 45 100
  · subst k100; exact rone_100 x v fs w hF hn
  by_cases k99 : op = b2 45 99
  · subst k99; exact rone_99 x v fs w hF hn
  by_cases k115 : op = b2 45 115
  · subst k115; exact rone_115 x v fs w hF hn
  by_cases k114 : op = b2 45 114
  · subst k114; exact rone_114 x v fs w hF hn
  by_cases k119 : op = b2 45 119
  · subst k119; exact rone_119 x v fs w hF hn
  by_cases k120 : op = b2 45 120
  · subst k120; exact rone_120 x v fs w hF hn
  exact rone_none op x v fs w k1 k2 (by unfold fileOp; simp [k101, k102, k100, k99, k115, k114, k119, k120])
end Go.Proofs.YthomdgejbkcljaaDoor
