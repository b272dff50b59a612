/- Operators of one: the document's. -/
import Derived.Test.YthomdgejbkcljaaDoorG
namespace Go.Proofs.YthomdgejbkcljaaDoor
open Go.RowKit

theorem rtruth_lit (b : Bool) (w : World) : Calls Tryd.prog 16 #[.bool b] w (RT (toldV (truthN b : Nat) noB false) w) := rtruth_any b w
/-- What a path's facts tell. -/
def ofS (c : UInt8) (x : ByteArray) (fs : List FactS) : Told := match fs.find? (fun f => decide (f.path = x)) with
  | none => .inr x
  | some f => .inl (truthN (f.is && sayS c f))
theorem oneS_of {c : UInt8} (h : isFileC c = true) (x : ByteArray) (fs : List FactS) : oneS (b2 45 c) x fs = ofS c x fs := oneS_file h x fs
set_option maxHeartbeats 4000000 in
set_option maxRecDepth 100000 in
theorem of_101 (x : ByteArray) (v : Value) (fs : List FactS) (w : World) (hF : InF w v fs) (hn : fs.length ≤ 140737488355328) :
    Calls Tryd.prog 24 #[.string (b2 45 101), .string x, v] w (RT (told (ofS 101 x fs)) w) := by
  have HI := Lib.hid (new_told w)
  have HB := Lib.hid (new_below w)
  have HF := Lib.hid (hF.below (new_below w))
  have HS : Hid (ofS 101 x fs = match fs.find? (fun f => decide (f.path = x)) with
    | none => .inr x
    | some f => .inl (truthN (f.is && sayS 101 f))) := Lib.hid rfl
  have o102 : ((b2 45 101).toList == [45, 102]) = false := (op_eq 101 102).trans (by decide)
  have o100 : ((b2 45 101).toList == [45, 100]) = false := (op_eq 101 100).trans (by decide)
  have o99 : ((b2 45 101).toList == [45, 99]) = false := (op_eq 101 99).trans (by decide)
  have o115 : ((b2 45 101).toList == [45, 115]) = false := (op_eq 101 115).trans (by decide)
  have o114 : ((b2 45 101).toList == [45, 114]) = false := (op_eq 101 114).trans (by decide)
  have o119 : ((b2 45 101).toList == [45, 119]) = false := (op_eq 101 119).trans (by decide)
  have o120 : ((b2 45 101).toList == [45, 120]) = false := (op_eq 101 120).trans (by decide)
  obtain ⟨a, cap, hv, _⟩ := hF
  subst hv
  have hn1 : (fs.length : Int) ≤ 140737488355328 := by omega
  clear hn
  go_enter Tryd.func24, Tryd.ntmps24
  go_upto_region 2 with fail
  generalize w.alloc (Obj.cells #[.int .i64 0, .string noB, .bool false] 28) = W1 at *
  go_loopw [7, 8] (fun v7 v8 wr => ∃ k : Nat, k ≤ fs.length ∧ v7 = .int .i64 k ∧ Hid (Below W1.heap.size W1 wr ∧ (fs.drop k).find? (fun f => decide (f.path = x)) = fs.find? (fun f => decide (f.path = x)))) (fun v7 v8 _ => fs.length - (intOf v7).toNat)
  case atStart => exact ⟨0, Nat.zero_le _, rfl, Lib.hid ⟨Below.refl _ _, rfl⟩⟩
  case round =>
    obtain ⟨k, hk, rfl, HH⟩ := hrel
    have hi := cell_still (w := w) HI.out HH.out.1
    have HI1 := Lib.hid hi
    have HB1 := Lib.hid (HB.out.trans (HH.out.1.mono HB.out.size))
    by_cases hlt : k < fs.length
    · have hlt1 : (k : Int) < fs.length := by omega
      obtain ⟨b, off, rfl, hfc⟩ := InF.fc HF.out HH.out.1 hlt
      have hd : fs.drop k = fs[k] :: fs.drop (k + 1) := List.drop_eq_getElem_cons hlt
      generalize fs[k] = f at *
      obtain ⟨g0, g1, g2, g3, g4, g5, g6, g7, g8, g9, g10⟩ := hfc
      have hpx : (f.path.toList == x.toList) = decide (f.path = x) := eq_text _ _
      by_cases hp : f.path = x
      · have hq : decide (f.path = x) = true := decide_eq_true hp
        rw [hq] at hpx
        have HR : Hid (ofS 101 x fs = .inl (truthN (f.is && sayS 101 f))) := Lib.hid (by rw [HS.out, ← HH.out.2, hd]; simp [List.find?_cons, hp])
        clear hp hq hd hk hi
        obtain ⟨fi, hfi⟩ : ∃ fi, f.is = fi := ⟨_, rfl⟩
        rw [hfi] at g1 HR
        clear hfi
        have hi2 : ∀ o, IsT (wr.alloc o) w.heap.size 0 noB false := fun o => cell_still (w := w) HI1.out ((Below.refl _ _).alloc (Nat.le_refl _) o)
        have HI2 := Lib.hid hi2
        have c0 : ∀ o, (wr.alloc o).cell? ⟨w.heap.size, 0, none⟩ = some (.int .i64 0) := fun o => heap_cell (hi2 o) 0
        have c1 : ∀ o, (wr.alloc o).cell? ⟨w.heap.size, 1, none⟩ = some (.string noB) := fun o => heap_cell (hi2 o) 1
        have c2 : ∀ o, (wr.alloc o).cell? ⟨w.heap.size, 2, none⟩ = some (.bool false) := fun o => heap_cell (hi2 o) 2
        have f0 : ∀ o, (wr.alloc o).frozen? ⟨w.heap.size, 0, none⟩ = false := fun o => heap_free (hi2 o) 0
        have f1 : ∀ o, (wr.alloc o).frozen? ⟨w.heap.size, 1, none⟩ = false := fun o => heap_free (hi2 o) 1
        have f2 : ∀ o, (wr.alloc o).frozen? ⟨w.heap.size, 2, none⟩ = false := fun o => heap_free (hi2 o) 2
        clear hi2
        cases fi with
        | false =>
          go_wp2
          exact leave24 w.heap.size rfl (put3 (HI2.out _) _ _ _) ⟨by rw [HR.out]; rfl, below3 (HB1.out.alloc HB1.out.size _) (Nat.le_refl _) _ _ _⟩
        | true =>
          go_wp2
          exact leave24 w.heap.size rfl (put3 (HI2.out _) _ _ _) ⟨by rw [HR.out]; rfl, below3 (HB1.out.alloc HB1.out.size _) (Nat.le_refl _) _ _ _⟩
      · have hq : decide (f.path = x) = false := decide_eq_false hp
        rw [hq] at hpx
        have HN : Hid ((fs.drop (k + 1)).find? (fun f => decide (f.path = x)) = fs.find? (fun f => decide (f.path = x))) := Lib.hid (by rw [← HH.out.2, hd]; simp [List.find?_cons, hp])
        clear hp hq hd hi
        go_wp2
        go_roundw
        case rel => exact ⟨k + 1, by omega, by go_num, Lib.hid ⟨HH.out.1.alloc HH.out.1.size _, HN.out⟩⟩
        case measure => simp [intOf]; omega
    · have hlt1 : ¬ (k : Int) < fs.length := by omega
      have HR : Hid (ofS 101 x fs = .inr x) := Lib.hid (by
        rw [HS.out, ← HH.out.2, List.drop_of_length_le (by omega)]; rfl)
      have c0 := heap_cell hi 0
      have c1 := heap_cell hi 1
      have c2 := heap_cell hi 2
      have f0 := heap_free hi 0
      have f1 := heap_free hi 1
      have f2 := heap_free hi 2
      clear hi
      go_wp2
      exact leave24 w.heap.size rfl (put3 HI1.out _ _ _) ⟨by rw [HR.out]; rfl, below3 HB1.out (Nat.le_refl _) _ _ _⟩
set_option maxHeartbeats 4000000 in
set_option maxRecDepth 100000 in
theorem of_102 (x : ByteArray) (v : Value) (fs : List FactS) (w : World) (hF : InF w v fs) (hn : fs.length ≤ 140737488355328) :
    Calls Tryd.prog 24 #[.string (b2 45 102), .string x, v] w (RT (told (ofS 102 x fs)) w) := by
  have HI := Lib.hid (new_told w)
  have HB := Lib.hid (new_below w)
  have HF := Lib.hid (hF.below (new_below w))
  have HS : Hid (ofS 102 x fs = match fs.find? (fun f => decide (f.path = x)) with
    | none => .inr x
    | some f => .inl (truthN (f.is && sayS 102 f))) := Lib.hid rfl
  have o102 : ((b2 45 102).toList == [45, 102]) = true := (op_eq 102 102).trans (by decide)
  have o100 : ((b2 45 102).toList == [45, 100]) = false := (op_eq 102 100).trans (by decide)
  have o99 : ((b2 45 102).toList == [45, 99]) = false := (op_eq 102 99).trans (by decide)
  have o115 : ((b2 45 102).toList == [45, 115]) = false := (op_eq 102 115).trans (by decide)
  have o114 : ((b2 45 102).toList == [45, 114]) = false := (op_eq 102 114).trans (by decide)
  have o119 : ((b2 45 102).toList == [45, 119]) = false := (op_eq 102 119).trans (by decide)
  have o120 : ((b2 45 102).toList == [45, 120]) = false := (op_eq 102 120).trans (by decide)
  obtain ⟨a, cap, hv, _⟩ := hF
  subst hv
  have hn1 : (fs.length : Int) ≤ 140737488355328 := by omega
  clear hn
  go_enter Tryd.func24, Tryd.ntmps24
  go_upto_region 2 with fail
  generalize w.alloc (Obj.cells #[.int .i64 0, .string noB, .bool false] 28) = W1 at *
  go_loopw [7, 8] (fun v7 v8 wr => ∃ k : Nat, k ≤ fs.length ∧ v7 = .int .i64 k ∧ Hid (Below W1.heap.size W1 wr ∧ (fs.drop k).find? (fun f => decide (f.path = x)) = fs.find? (fun f => decide (f.path = x)))) (fun v7 v8 _ => fs.length - (intOf v7).toNat)
  case atStart => exact ⟨0, Nat.zero_le _, rfl, Lib.hid ⟨Below.refl _ _, rfl⟩⟩
  case round =>
    obtain ⟨k, hk, rfl, HH⟩ := hrel
    have hi := cell_still (w := w) HI.out HH.out.1
    have HI1 := Lib.hid hi
    have HB1 := Lib.hid (HB.out.trans (HH.out.1.mono HB.out.size))
    by_cases hlt : k < fs.length
    · have hlt1 : (k : Int) < fs.length := by omega
      obtain ⟨b, off, rfl, hfc⟩ := InF.fc HF.out HH.out.1 hlt
      have hd : fs.drop k = fs[k] :: fs.drop (k + 1) := List.drop_eq_getElem_cons hlt
      generalize fs[k] = f at *
      obtain ⟨g0, g1, g2, g3, g4, g5, g6, g7, g8, g9, g10⟩ := hfc
      have hpx : (f.path.toList == x.toList) = decide (f.path = x) := eq_text _ _
      by_cases hp : f.path = x
      · have hq : decide (f.path = x) = true := decide_eq_true hp
        rw [hq] at hpx
        have HR : Hid (ofS 102 x fs = .inl (truthN (f.is && sayS 102 f))) := Lib.hid (by rw [HS.out, ← HH.out.2, hd]; simp [List.find?_cons, hp])
        clear hp hq hd hk hi
        obtain ⟨fi, hfi⟩ : ∃ fi, f.is = fi := ⟨_, rfl⟩
        rw [hfi] at g1 HR
        clear hfi
        have hi2 : ∀ o, IsT (wr.alloc o) w.heap.size 0 noB false := fun o => cell_still (w := w) HI1.out ((Below.refl _ _).alloc (Nat.le_refl _) o)
        have HI2 := Lib.hid hi2
        have c0 : ∀ o, (wr.alloc o).cell? ⟨w.heap.size, 0, none⟩ = some (.int .i64 0) := fun o => heap_cell (hi2 o) 0
        have c1 : ∀ o, (wr.alloc o).cell? ⟨w.heap.size, 1, none⟩ = some (.string noB) := fun o => heap_cell (hi2 o) 1
        have c2 : ∀ o, (wr.alloc o).cell? ⟨w.heap.size, 2, none⟩ = some (.bool false) := fun o => heap_cell (hi2 o) 2
        have f0 : ∀ o, (wr.alloc o).frozen? ⟨w.heap.size, 0, none⟩ = false := fun o => heap_free (hi2 o) 0
        have f1 : ∀ o, (wr.alloc o).frozen? ⟨w.heap.size, 1, none⟩ = false := fun o => heap_free (hi2 o) 1
        have f2 : ∀ o, (wr.alloc o).frozen? ⟨w.heap.size, 2, none⟩ = false := fun o => heap_free (hi2 o) 2
        clear hi2
        cases fi with
        | false =>
          go_wp2
          exact leave24 w.heap.size rfl (put3 (HI2.out _) _ _ _) ⟨by rw [HR.out]; rfl, below3 (HB1.out.alloc HB1.out.size _) (Nat.le_refl _) _ _ _⟩
        | true =>
          clear c0 c1 c2 f0 f1 f2
          go_wp2_with fail
          refine (rtruth_lit _ _).mono ?_
          rintro e w2 ⟨rfl, hb2⟩
          have hi3 := cell_still (w := w) (HI2.out _) hb2
          have HI3 := Lib.hid hi3
          have HB3 := Lib.hid ((HB1.out.alloc HB1.out.size _).trans (hb2.mono (HB1.out.alloc HB1.out.size _).size))
          have c0 := heap_cell hi3 0
          have c1 := heap_cell hi3 1
          have c2 := heap_cell hi3 2
          have f0 := heap_free hi3 0
          have f1 := heap_free hi3 1
          have f2 := heap_free hi3 2
          clear hi3 hb2
          go_wp2
          exact leave24 w.heap.size rfl (put3 HI3.out _ _ _) ⟨by rw [HR.out]; rfl, below3 HB3.out (Nat.le_refl _) _ _ _⟩
      · have hq : decide (f.path = x) = false := decide_eq_false hp
        rw [hq] at hpx
        have HN : Hid ((fs.drop (k + 1)).find? (fun f => decide (f.path = x)) = fs.find? (fun f => decide (f.path = x))) := Lib.hid (by rw [← HH.out.2, hd]; simp [List.find?_cons, hp])
        clear hp hq hd hi
        go_wp2
        go_roundw
        case rel => exact ⟨k + 1, by omega, by go_num, Lib.hid ⟨HH.out.1.alloc HH.out.1.size _, HN.out⟩⟩
        case measure => simp [intOf]; omega
    · have hlt1 : ¬ (k : Int) < fs.length := by omega
      have HR : Hid (ofS 102 x fs = .inr x) := Lib.hid (by
        rw [HS.out, ← HH.out.2, List.drop_of_length_le (by omega)]; rfl)
      have c0 := heap_cell hi 0
      have c1 := heap_cell hi 1
      have c2 := heap_cell hi 2
      have f0 := heap_free hi 0
      have f1 := heap_free hi 1
      have f2 := heap_free hi 2
      clear hi
      go_wp2
      exact leave24 w.heap.size rfl (put3 HI1.out _ _ _) ⟨by rw [HR.out]; rfl, below3 HB1.out (Nat.le_refl _) _ _ _⟩
set_option maxHeartbeats 4000000 in
set_option maxRecDepth 100000 in
theorem of_100 (x : ByteArray) (v : Value) (fs : List FactS) (w : World) (hF : InF w v fs) (hn : fs.length ≤ 140737488355328) :
    Calls Tryd.prog 24 #[.string (b2 45 100), .string x, v] w (RT (told (ofS 100 x fs)) w) := by
  have HI := Lib.hid (new_told w)
  have HB := Lib.hid (new_below w)
  have HF := Lib.hid (hF.below (new_below w))
  have HS : Hid (ofS 100 x fs = match fs.find? (fun f => decide (f.path = x)) with
    | none => .inr x
    | some f => .inl (truthN (f.is && sayS 100 f))) := Lib.hid rfl
  have o102 : ((b2 45 100).toList == [45, 102]) = false := (op_eq 100 102).trans (by decide)
  have o100 : ((b2 45 100).toList == [45, 100]) = true := (op_eq 100 100).trans (by decide)
  have o99 : ((b2 45 100).toList == [45, 99]) = false := (op_eq 100 99).trans (by decide)
  have o115 : ((b2 45 100).toList == [45, 115]) = false := (op_eq 100 115).trans (by decide)
  have o114 : ((b2 45 100).toList == [45, 114]) = false := (op_eq 100 114).trans (by decide)
  have o119 : ((b2 45 100).toList == [45, 119]) = false := (op_eq 100 119).trans (by decide)
  have o120 : ((b2 45 100).toList == [45, 120]) = false := (op_eq 100 120).trans (by decide)
  obtain ⟨a, cap, hv, _⟩ := hF
  subst hv
  have hn1 : (fs.length : Int) ≤ 140737488355328 := by omega
  clear hn
  go_enter Tryd.func24, Tryd.ntmps24
  go_upto_region 2 with fail
  generalize w.alloc (Obj.cells #[.int .i64 0, .string noB, .bool false] 28) = W1 at *
  go_loopw [7, 8] (fun v7 v8 wr => ∃ k : Nat, k ≤ fs.length ∧ v7 = .int .i64 k ∧ Hid (Below W1.heap.size W1 wr ∧ (fs.drop k).find? (fun f => decide (f.path = x)) = fs.find? (fun f => decide (f.path = x)))) (fun v7 v8 _ => fs.length - (intOf v7).toNat)
  case atStart => exact ⟨0, Nat.zero_le _, rfl, Lib.hid ⟨Below.refl _ _, rfl⟩⟩
  case round =>
    obtain ⟨k, hk, rfl, HH⟩ := hrel
    have hi := cell_still (w := w) HI.out HH.out.1
    have HI1 := Lib.hid hi
    have HB1 := Lib.hid (HB.out.trans (HH.out.1.mono HB.out.size))
    by_cases hlt : k < fs.length
    · have hlt1 : (k : Int) < fs.length := by omega
      obtain ⟨b, off, rfl, hfc⟩ := InF.fc HF.out HH.out.1 hlt
      have hd : fs.drop k = fs[k] :: fs.drop (k + 1) := List.drop_eq_getElem_cons hlt
      generalize fs[k] = f at *
      obtain ⟨g0, g1, g2, g3, g4, g5, g6, g7, g8, g9, g10⟩ := hfc
      have hpx : (f.path.toList == x.toList) = decide (f.path = x) := eq_text _ _
      by_cases hp : f.path = x
      · have hq : decide (f.path = x) = true := decide_eq_true hp
        rw [hq] at hpx
        have HR : Hid (ofS 100 x fs = .inl (truthN (f.is && sayS 100 f))) := Lib.hid (by rw [HS.out, ← HH.out.2, hd]; simp [List.find?_cons, hp])
        clear hp hq hd hk hi
        obtain ⟨fi, hfi⟩ : ∃ fi, f.is = fi := ⟨_, rfl⟩
        rw [hfi] at g1 HR
        clear hfi
        have hi2 : ∀ o, IsT (wr.alloc o) w.heap.size 0 noB false := fun o => cell_still (w := w) HI1.out ((Below.refl _ _).alloc (Nat.le_refl _) o)
        have HI2 := Lib.hid hi2
        have c0 : ∀ o, (wr.alloc o).cell? ⟨w.heap.size, 0, none⟩ = some (.int .i64 0) := fun o => heap_cell (hi2 o) 0
        have c1 : ∀ o, (wr.alloc o).cell? ⟨w.heap.size, 1, none⟩ = some (.string noB) := fun o => heap_cell (hi2 o) 1
        have c2 : ∀ o, (wr.alloc o).cell? ⟨w.heap.size, 2, none⟩ = some (.bool false) := fun o => heap_cell (hi2 o) 2
        have f0 : ∀ o, (wr.alloc o).frozen? ⟨w.heap.size, 0, none⟩ = false := fun o => heap_free (hi2 o) 0
        have f1 : ∀ o, (wr.alloc o).frozen? ⟨w.heap.size, 1, none⟩ = false := fun o => heap_free (hi2 o) 1
        have f2 : ∀ o, (wr.alloc o).frozen? ⟨w.heap.size, 2, none⟩ = false := fun o => heap_free (hi2 o) 2
        clear hi2
        cases fi with
        | false =>
          go_wp2
          exact leave24 w.heap.size rfl (put3 (HI2.out _) _ _ _) ⟨by rw [HR.out]; rfl, below3 (HB1.out.alloc HB1.out.size _) (Nat.le_refl _) _ _ _⟩
        | true =>
          clear c0 c1 c2 f0 f1 f2
          go_wp2_with fail
          refine (rtruth_lit _ _).mono ?_
          rintro e w2 ⟨rfl, hb2⟩
          have hi3 := cell_still (w := w) (HI2.out _) hb2
          have HI3 := Lib.hid hi3
          have HB3 := Lib.hid ((HB1.out.alloc HB1.out.size _).trans (hb2.mono (HB1.out.alloc HB1.out.size _).size))
          have c0 := heap_cell hi3 0
          have c1 := heap_cell hi3 1
          have c2 := heap_cell hi3 2
          have f0 := heap_free hi3 0
          have f1 := heap_free hi3 1
          have f2 := heap_free hi3 2
          clear hi3 hb2
          go_wp2
          exact leave24 w.heap.size rfl (put3 HI3.out _ _ _) ⟨by rw [HR.out]; rfl, below3 HB3.out (Nat.le_refl _) _ _ _⟩
      · have hq : decide (f.path = x) = false := decide_eq_false hp
        rw [hq] at hpx
        have HN : Hid ((fs.drop (k + 1)).find? (fun f => decide (f.path = x)) = fs.find? (fun f => decide (f.path = x))) := Lib.hid (by rw [← HH.out.2, hd]; simp [List.find?_cons, hp])
        clear hp hq hd hi
        go_wp2
        go_roundw
        case rel => exact ⟨k + 1, by omega, by go_num, Lib.hid ⟨HH.out.1.alloc HH.out.1.size _, HN.out⟩⟩
        case measure => simp [intOf]; omega
    · have hlt1 : ¬ (k : Int) < fs.length := by omega
      have HR : Hid (ofS 100 x fs = .inr x) := Lib.hid (by
        rw [HS.out, ← HH.out.2, List.drop_of_length_le (by omega)]; rfl)
      have c0 := heap_cell hi 0
      have c1 := heap_cell hi 1
      have c2 := heap_cell hi 2
      have f0 := heap_free hi 0
      have f1 := heap_free hi 1
      have f2 := heap_free hi 2
      clear hi
      go_wp2
      exact leave24 w.heap.size rfl (put3 HI1.out _ _ _) ⟨by rw [HR.out]; rfl, below3 HB1.out (Nat.le_refl _) _ _ _⟩
set_option maxHeartbeats 4000000 in
set_option maxRecDepth 100000 in
theorem of_99 (x : ByteArray) (v : Value) (fs : List FactS) (w : World) (hF : InF w v fs) (hn : fs.length ≤ 140737488355328) :
    Calls Tryd.prog 24 #[.string (b2 45 99), .string x, v] w (RT (told (ofS 99 x fs)) w) := by
  have HI := Lib.hid (new_told w)
  have HB := Lib.hid (new_below w)
  have HF := Lib.hid (hF.below (new_below w))
  have HS : Hid (ofS 99 x fs = match fs.find? (fun f => decide (f.path = x)) with
    | none => .inr x
    | some f => .inl (truthN (f.is && sayS 99 f))) := Lib.hid rfl
  have o102 : ((b2 45 99).toList == [45, 102]) = false := (op_eq 99 102).trans (by decide)
  have o100 : ((b2 45 99).toList == [45, 100]) = false := (op_eq 99 100).trans (by decide)
  have o99 : ((b2 45 99).toList == [45, 99]) = true := (op_eq 99 99).trans (by decide)
  have o115 : ((b2 45 99).toList == [45, 115]) = false := (op_eq 99 115).trans (by decide)
  have o114 : ((b2 45 99).toList == [45, 114]) = false := (op_eq 99 114).trans (by decide)
  have o119 : ((b2 45 99).toList == [45, 119]) = false := (op_eq 99 119).trans (by decide)
  have o120 : ((b2 45 99).toList == [45, 120]) = false := (op_eq 99 120).trans (by decide)
  obtain ⟨a, cap, hv, _⟩ := hF
  subst hv
  have hn1 : (fs.length : Int) ≤ 140737488355328 := by omega
  clear hn
  go_enter Tryd.func24, Tryd.ntmps24
  go_upto_region 2 with fail
  generalize w.alloc (Obj.cells #[.int .i64 0, .string noB, .bool false] 28) = W1 at *
  go_loopw [7, 8] (fun v7 v8 wr => ∃ k : Nat, k ≤ fs.length ∧ v7 = .int .i64 k ∧ Hid (Below W1.heap.size W1 wr ∧ (fs.drop k).find? (fun f => decide (f.path = x)) = fs.find? (fun f => decide (f.path = x)))) (fun v7 v8 _ => fs.length - (intOf v7).toNat)
  case atStart => exact ⟨0, Nat.zero_le _, rfl, Lib.hid ⟨Below.refl _ _, rfl⟩⟩
  case round =>
    obtain ⟨k, hk, rfl, HH⟩ := hrel
    have hi := cell_still (w := w) HI.out HH.out.1
    have HI1 := Lib.hid hi
    have HB1 := Lib.hid (HB.out.trans (HH.out.1.mono HB.out.size))
    by_cases hlt : k < fs.length
    · have hlt1 : (k : Int) < fs.length := by omega
      obtain ⟨b, off, rfl, hfc⟩ := InF.fc HF.out HH.out.1 hlt
      have hd : fs.drop k = fs[k] :: fs.drop (k + 1) := List.drop_eq_getElem_cons hlt
      generalize fs[k] = f at *
      obtain ⟨g0, g1, g2, g3, g4, g5, g6, g7, g8, g9, g10⟩ := hfc
      have hpx : (f.path.toList == x.toList) = decide (f.path = x) := eq_text _ _
      by_cases hp : f.path = x
      · have hq : decide (f.path = x) = true := decide_eq_true hp
        rw [hq] at hpx
        have HR : Hid (ofS 99 x fs = .inl (truthN (f.is && sayS 99 f))) := Lib.hid (by rw [HS.out, ← HH.out.2, hd]; simp [List.find?_cons, hp])
        clear hp hq hd hk hi
        obtain ⟨fi, hfi⟩ : ∃ fi, f.is = fi := ⟨_, rfl⟩
        rw [hfi] at g1 HR
        clear hfi
        have hi2 : ∀ o, IsT (wr.alloc o) w.heap.size 0 noB false := fun o => cell_still (w := w) HI1.out ((Below.refl _ _).alloc (Nat.le_refl _) o)
        have HI2 := Lib.hid hi2
        have c0 : ∀ o, (wr.alloc o).cell? ⟨w.heap.size, 0, none⟩ = some (.int .i64 0) := fun o => heap_cell (hi2 o) 0
        have c1 : ∀ o, (wr.alloc o).cell? ⟨w.heap.size, 1, none⟩ = some (.string noB) := fun o => heap_cell (hi2 o) 1
        have c2 : ∀ o, (wr.alloc o).cell? ⟨w.heap.size, 2, none⟩ = some (.bool false) := fun o => heap_cell (hi2 o) 2
        have f0 : ∀ o, (wr.alloc o).frozen? ⟨w.heap.size, 0, none⟩ = false := fun o => heap_free (hi2 o) 0
        have f1 : ∀ o, (wr.alloc o).frozen? ⟨w.heap.size, 1, none⟩ = false := fun o => heap_free (hi2 o) 1
        have f2 : ∀ o, (wr.alloc o).frozen? ⟨w.heap.size, 2, none⟩ = false := fun o => heap_free (hi2 o) 2
        clear hi2
        cases fi with
        | false =>
          go_wp2
          exact leave24 w.heap.size rfl (put3 (HI2.out _) _ _ _) ⟨by rw [HR.out]; rfl, below3 (HB1.out.alloc HB1.out.size _) (Nat.le_refl _) _ _ _⟩
        | true =>
          clear c0 c1 c2 f0 f1 f2
          go_wp2_with fail
          refine (rtruth_lit _ _).mono ?_
          rintro e w2 ⟨rfl, hb2⟩
          have hi3 := cell_still (w := w) (HI2.out _) hb2
          have HI3 := Lib.hid hi3
          have HB3 := Lib.hid ((HB1.out.alloc HB1.out.size _).trans (hb2.mono (HB1.out.alloc HB1.out.size _).size))
          have c0 := heap_cell hi3 0
          have c1 := heap_cell hi3 1
          have c2 := heap_cell hi3 2
          have f0 := heap_free hi3 0
          have f1 := heap_free hi3 1
          have f2 := heap_free hi3 2
          clear hi3 hb2
          go_wp2
          exact leave24 w.heap.size rfl (put3 HI3.out _ _ _) ⟨by rw [HR.out]; rfl, below3 HB3.out (Nat.le_refl _) _ _ _⟩
      · have hq : decide (f.path = x) = false := decide_eq_false hp
        rw [hq] at hpx
        have HN : Hid ((fs.drop (k + 1)).find? (fun f => decide (f.path = x)) = fs.find? (fun f => decide (f.path = x))) := Lib.hid (by rw [← HH.out.2, hd]; simp [List.find?_cons, hp])
        clear hp hq hd hi
        go_wp2
        go_roundw
        case rel => exact ⟨k + 1, by omega, by go_num, Lib.hid ⟨HH.out.1.alloc HH.out.1.size _, HN.out⟩⟩
        case measure => simp [intOf]; omega
    · have hlt1 : ¬ (k : Int) < fs.length := by omega
      have HR : Hid (ofS 99 x fs = .inr x) := Lib.hid (by
        rw [HS.out, ← HH.out.2, List.drop_of_length_le (by omega)]; rfl)
      have c0 := heap_cell hi 0
      have c1 := heap_cell hi 1
      have c2 := heap_cell hi 2
      have f0 := heap_free hi 0
      have f1 := heap_free hi 1
      have f2 := heap_free hi 2
      clear hi
      go_wp2
      exact leave24 w.heap.size rfl (put3 HI1.out _ _ _) ⟨by rw [HR.out]; rfl, below3 HB1.out (Nat.le_refl _) _ _ _⟩
set_option maxHeartbeats 4000000 in
set_option maxRecDepth 100000 in
theorem of_115 (x : ByteArray) (v : Value) (fs : List FactS) (w : World) (hF : InF w v fs) (hn : fs.length ≤ 140737488355328) :
    Calls Tryd.prog 24 #[.string (b2 45 115), .string x, v] w (RT (told (ofS 115 x fs)) w) := by
  have HI := Lib.hid (new_told w)
  have HB := Lib.hid (new_below w)
  have HF := Lib.hid (hF.below (new_below w))
  have HS : Hid (ofS 115 x fs = match fs.find? (fun f => decide (f.path = x)) with
    | none => .inr x
    | some f => .inl (truthN (f.is && sayS 115 f))) := Lib.hid rfl
  have o102 : ((b2 45 115).toList == [45, 102]) = false := (op_eq 115 102).trans (by decide)
  have o100 : ((b2 45 115).toList == [45, 100]) = false := (op_eq 115 100).trans (by decide)
  have o99 : ((b2 45 115).toList == [45, 99]) = false := (op_eq 115 99).trans (by decide)
  have o115 : ((b2 45 115).toList == [45, 115]) = true := (op_eq 115 115).trans (by decide)
  have o114 : ((b2 45 115).toList == [45, 114]) = false := (op_eq 115 114).trans (by decide)
  have o119 : ((b2 45 115).toList == [45, 119]) = false := (op_eq 115 119).trans (by decide)
  have o120 : ((b2 45 115).toList == [45, 120]) = false := (op_eq 115 120).trans (by decide)
  obtain ⟨a, cap, hv, _⟩ := hF
  subst hv
  have hn1 : (fs.length : Int) ≤ 140737488355328 := by omega
  clear hn
  go_enter Tryd.func24, Tryd.ntmps24
  go_upto_region 2 with fail
  generalize w.alloc (Obj.cells #[.int .i64 0, .string noB, .bool false] 28) = W1 at *
  go_loopw [7, 8] (fun v7 v8 wr => ∃ k : Nat, k ≤ fs.length ∧ v7 = .int .i64 k ∧ Hid (Below W1.heap.size W1 wr ∧ (fs.drop k).find? (fun f => decide (f.path = x)) = fs.find? (fun f => decide (f.path = x)))) (fun v7 v8 _ => fs.length - (intOf v7).toNat)
  case atStart => exact ⟨0, Nat.zero_le _, rfl, Lib.hid ⟨Below.refl _ _, rfl⟩⟩
  case round =>
    obtain ⟨k, hk, rfl, HH⟩ := hrel
    have hi := cell_still (w := w) HI.out HH.out.1
    have HI1 := Lib.hid hi
    have HB1 := Lib.hid (HB.out.trans (HH.out.1.mono HB.out.size))
    by_cases hlt : k < fs.length
    · have hlt1 : (k : Int) < fs.length := by omega
      obtain ⟨b, off, rfl, hfc⟩ := InF.fc HF.out HH.out.1 hlt
      have hd : fs.drop k = fs[k] :: fs.drop (k + 1) := List.drop_eq_getElem_cons hlt
      generalize fs[k] = f at *
      obtain ⟨g0, g1, g2, g3, g4, g5, g6, g7, g8, g9, g10⟩ := hfc
      have hpx : (f.path.toList == x.toList) = decide (f.path = x) := eq_text _ _
      by_cases hp : f.path = x
      · have hq : decide (f.path = x) = true := decide_eq_true hp
        rw [hq] at hpx
        have HR : Hid (ofS 115 x fs = .inl (truthN (f.is && sayS 115 f))) := Lib.hid (by rw [HS.out, ← HH.out.2, hd]; simp [List.find?_cons, hp])
        clear hp hq hd hk hi
        obtain ⟨fi, hfi⟩ : ∃ fi, f.is = fi := ⟨_, rfl⟩
        rw [hfi] at g1 HR
        clear hfi
        have hi2 : ∀ o, IsT (wr.alloc o) w.heap.size 0 noB false := fun o => cell_still (w := w) HI1.out ((Below.refl _ _).alloc (Nat.le_refl _) o)
        have HI2 := Lib.hid hi2
        have c0 : ∀ o, (wr.alloc o).cell? ⟨w.heap.size, 0, none⟩ = some (.int .i64 0) := fun o => heap_cell (hi2 o) 0
        have c1 : ∀ o, (wr.alloc o).cell? ⟨w.heap.size, 1, none⟩ = some (.string noB) := fun o => heap_cell (hi2 o) 1
        have c2 : ∀ o, (wr.alloc o).cell? ⟨w.heap.size, 2, none⟩ = some (.bool false) := fun o => heap_cell (hi2 o) 2
        have f0 : ∀ o, (wr.alloc o).frozen? ⟨w.heap.size, 0, none⟩ = false := fun o => heap_free (hi2 o) 0
        have f1 : ∀ o, (wr.alloc o).frozen? ⟨w.heap.size, 1, none⟩ = false := fun o => heap_free (hi2 o) 1
        have f2 : ∀ o, (wr.alloc o).frozen? ⟨w.heap.size, 2, none⟩ = false := fun o => heap_free (hi2 o) 2
        clear hi2
        cases fi with
        | false =>
          go_wp2
          exact leave24 w.heap.size rfl (put3 (HI2.out _) _ _ _) ⟨by rw [HR.out]; rfl, below3 (HB1.out.alloc HB1.out.size _) (Nat.le_refl _) _ _ _⟩
        | true =>
          clear c0 c1 c2 f0 f1 f2
          go_wp2_with fail
          refine (rtruth_lit _ _).mono ?_
          rintro e w2 ⟨rfl, hb2⟩
          have hi3 := cell_still (w := w) (HI2.out _) hb2
          have HI3 := Lib.hid hi3
          have HB3 := Lib.hid ((HB1.out.alloc HB1.out.size _).trans (hb2.mono (HB1.out.alloc HB1.out.size _).size))
          have c0 := heap_cell hi3 0
          have c1 := heap_cell hi3 1
          have c2 := heap_cell hi3 2
          have f0 := heap_free hi3 0
          have f1 := heap_free hi3 1
          have f2 := heap_free hi3 2
          clear hi3 hb2
          go_wp2
          exact leave24 w.heap.size rfl (put3 HI3.out _ _ _) ⟨by rw [HR.out]; rfl, below3 HB3.out (Nat.le_refl _) _ _ _⟩
      · have hq : decide (f.path = x) = false := decide_eq_false hp
        rw [hq] at hpx
        have HN : Hid ((fs.drop (k + 1)).find? (fun f => decide (f.path = x)) = fs.find? (fun f => decide (f.path = x))) := Lib.hid (by rw [← HH.out.2, hd]; simp [List.find?_cons, hp])
        clear hp hq hd hi
        go_wp2
        go_roundw
        case rel => exact ⟨k + 1, by omega, by go_num, Lib.hid ⟨HH.out.1.alloc HH.out.1.size _, HN.out⟩⟩
        case measure => simp [intOf]; omega
    · have hlt1 : ¬ (k : Int) < fs.length := by omega
      have HR : Hid (ofS 115 x fs = .inr x) := Lib.hid (by
        rw [HS.out, ← HH.out.2, List.drop_of_length_le (by omega)]; rfl)
      have c0 := heap_cell hi 0
      have c1 := heap_cell hi 1
      have c2 := heap_cell hi 2
      have f0 := heap_free hi 0
      have f1 := heap_free hi 1
      have f2 := heap_free hi 2
      clear hi
      go_wp2
      exact leave24 w.heap.size rfl (put3 HI1.out _ _ _) ⟨by rw [HR.out]; rfl, below3 HB1.out (Nat.le_refl _) _ _ _⟩
set_option maxHeartbeats 4000000 in
set_option maxRecDepth 100000 in
theorem of_114 (x : ByteArray) (v : Value) (fs : List FactS) (w : World) (hF : InF w v fs) (hn : fs.length ≤ 140737488355328) :
    Calls Tryd.prog 24 #[.string (b2 45 114), .string x, v] w (RT (told (ofS 114 x fs)) w) := by
  have HI := Lib.hid (new_told w)
  have HB := Lib.hid (new_below w)
  have HF := Lib.hid (hF.below (new_below w))
  have HS : Hid (ofS 114 x fs = match fs.find? (fun f => decide (f.path = x)) with
    | none => .inr x
    | some f => .inl (truthN (f.is && sayS 114 f))) := Lib.hid rfl
  have o102 : ((b2 45 114).toList == [45, 102]) = false := (op_eq 114 102).trans (by decide)
  have o100 : ((b2 45 114).toList == [45, 100]) = false := (op_eq 114 100).trans (by decide)
  have o99 : ((b2 45 114).toList == [45, 99]) = false := (op_eq 114 99).trans (by decide)
  have o115 : ((b2 45 114).toList == [45, 115]) = false := (op_eq 114 115).trans (by decide)
  have o114 : ((b2 45 114).toList == [45, 114]) = true := (op_eq 114 114).trans (by decide)
  have o119 : ((b2 45 114).toList == [45, 119]) = false := (op_eq 114 119).trans (by decide)
  have o120 : ((b2 45 114).toList == [45, 120]) = false := (op_eq 114 120).trans (by decide)
  obtain ⟨a, cap, hv, _⟩ := hF
  subst hv
  have hn1 : (fs.length : Int) ≤ 140737488355328 := by omega
  clear hn
  go_enter Tryd.func24, Tryd.ntmps24
  go_upto_region 2 with fail
  generalize w.alloc (Obj.cells #[.int .i64 0, .string noB, .bool false] 28) = W1 at *
  go_loopw [7, 8] (fun v7 v8 wr => ∃ k : Nat, k ≤ fs.length ∧ v7 = .int .i64 k ∧ Hid (Below W1.heap.size W1 wr ∧ (fs.drop k).find? (fun f => decide (f.path = x)) = fs.find? (fun f => decide (f.path = x)))) (fun v7 v8 _ => fs.length - (intOf v7).toNat)
  case atStart => exact ⟨0, Nat.zero_le _, rfl, Lib.hid ⟨Below.refl _ _, rfl⟩⟩
  case round =>
    obtain ⟨k, hk, rfl, HH⟩ := hrel
    have hi := cell_still (w := w) HI.out HH.out.1
    have HI1 := Lib.hid hi
    have HB1 := Lib.hid (HB.out.trans (HH.out.1.mono HB.out.size))
    by_cases hlt : k < fs.length
    · have hlt1 : (k : Int) < fs.length := by omega
      obtain ⟨b, off, rfl, hfc⟩ := InF.fc HF.out HH.out.1 hlt
      have hd : fs.drop k = fs[k] :: fs.drop (k + 1) := List.drop_eq_getElem_cons hlt
      generalize fs[k] = f at *
      obtain ⟨g0, g1, g2, g3, g4, g5, g6, g7, g8, g9, g10⟩ := hfc
      have hpx : (f.path.toList == x.toList) = decide (f.path = x) := eq_text _ _
      by_cases hp : f.path = x
      · have hq : decide (f.path = x) = true := decide_eq_true hp
        rw [hq] at hpx
        have HR : Hid (ofS 114 x fs = .inl (truthN (f.is && sayS 114 f))) := Lib.hid (by rw [HS.out, ← HH.out.2, hd]; simp [List.find?_cons, hp])
        clear hp hq hd hk hi
        obtain ⟨fi, hfi⟩ : ∃ fi, f.is = fi := ⟨_, rfl⟩
        rw [hfi] at g1 HR
        clear hfi
        have hi2 : ∀ o, IsT (wr.alloc o) w.heap.size 0 noB false := fun o => cell_still (w := w) HI1.out ((Below.refl _ _).alloc (Nat.le_refl _) o)
        have HI2 := Lib.hid hi2
        have c0 : ∀ o, (wr.alloc o).cell? ⟨w.heap.size, 0, none⟩ = some (.int .i64 0) := fun o => heap_cell (hi2 o) 0
        have c1 : ∀ o, (wr.alloc o).cell? ⟨w.heap.size, 1, none⟩ = some (.string noB) := fun o => heap_cell (hi2 o) 1
        have c2 : ∀ o, (wr.alloc o).cell? ⟨w.heap.size, 2, none⟩ = some (.bool false) := fun o => heap_cell (hi2 o) 2
        have f0 : ∀ o, (wr.alloc o).frozen? ⟨w.heap.size, 0, none⟩ = false := fun o => heap_free (hi2 o) 0
        have f1 : ∀ o, (wr.alloc o).frozen? ⟨w.heap.size, 1, none⟩ = false := fun o => heap_free (hi2 o) 1
        have f2 : ∀ o, (wr.alloc o).frozen? ⟨w.heap.size, 2, none⟩ = false := fun o => heap_free (hi2 o) 2
        clear hi2
        cases fi with
        | false =>
          go_wp2
          exact leave24 w.heap.size rfl (put3 (HI2.out _) _ _ _) ⟨by rw [HR.out]; rfl, below3 (HB1.out.alloc HB1.out.size _) (Nat.le_refl _) _ _ _⟩
        | true =>
          clear c0 c1 c2 f0 f1 f2
          go_wp2_with fail
          refine (rtruth_lit _ _).mono ?_
          rintro e w2 ⟨rfl, hb2⟩
          have hi3 := cell_still (w := w) (HI2.out _) hb2
          have HI3 := Lib.hid hi3
          have HB3 := Lib.hid ((HB1.out.alloc HB1.out.size _).trans (hb2.mono (HB1.out.alloc HB1.out.size _).size))
          have c0 := heap_cell hi3 0
          have c1 := heap_cell hi3 1
          have c2 := heap_cell hi3 2
          have f0 := heap_free hi3 0
          have f1 := heap_free hi3 1
          have f2 := heap_free hi3 2
          clear hi3 hb2
          go_wp2
          exact leave24 w.heap.size rfl (put3 HI3.out _ _ _) ⟨by rw [HR.out]; rfl, below3 HB3.out (Nat.le_refl _) _ _ _⟩
      · have hq : decide (f.path = x) = false := decide_eq_false hp
        rw [hq] at hpx
        have HN : Hid ((fs.drop (k + 1)).find? (fun f => decide (f.path = x)) = fs.find? (fun f => decide (f.path = x))) := Lib.hid (by rw [← HH.out.2, hd]; simp [List.find?_cons, hp])
        clear hp hq hd hi
        go_wp2
        go_roundw
        case rel => exact ⟨k + 1, by omega, by go_num, Lib.hid ⟨HH.out.1.alloc HH.out.1.size _, HN.out⟩⟩
        case measure => simp [intOf]; omega
    · have hlt1 : ¬ (k : Int) < fs.length := by omega
      have HR : Hid (ofS 114 x fs = .inr x) := Lib.hid (by
        rw [HS.out, ← HH.out.2, List.drop_of_length_le (by omega)]; rfl)
      have c0 := heap_cell hi 0
      have c1 := heap_cell hi 1
      have c2 := heap_cell hi 2
      have f0 := heap_free hi 0
      have f1 := heap_free hi 1
      have f2 := heap_free hi 2
      clear hi
      go_wp2
      exact leave24 w.heap.size rfl (put3 HI1.out _ _ _) ⟨by rw [HR.out]; rfl, below3 HB1.out (Nat.le_refl _) _ _ _⟩
set_option maxHeartbeats 4000000 in
set_option maxRecDepth 100000 in
theorem of_119 (x : ByteArray) (v : Value) (fs : List FactS) (w : World) (hF : InF w v fs) (hn : fs.length ≤ 140737488355328) :
    Calls Tryd.prog 24 #[.string (b2 45 119), .string x, v] w (RT (told (ofS 119 x fs)) w) := by
  have HI := Lib.hid (new_told w)
  have HB := Lib.hid (new_below w)
  have HF := Lib.hid (hF.below (new_below w))
  have HS : Hid (ofS 119 x fs = match fs.find? (fun f => decide (f.path = x)) with
    | none => .inr x
    | some f => .inl (truthN (f.is && sayS 119 f))) := Lib.hid rfl
  have o102 : ((b2 45 119).toList == [45, 102]) = false := (op_eq 119 102).trans (by decide)
  have o100 : ((b2 45 119).toList == [45, 100]) = false := (op_eq 119 100).trans (by decide)
  have o99 : ((b2 45 119).toList == [45, 99]) = false := (op_eq 119 99).trans (by decide)
  have o115 : ((b2 45 119).toList == [45, 115]) = false := (op_eq 119 115).trans (by decide)
  have o114 : ((b2 45 119).toList == [45, 114]) = false := (op_eq 119 114).trans (by decide)
  have o119 : ((b2 45 119).toList == [45, 119]) = true := (op_eq 119 119).trans (by decide)
  have o120 : ((b2 45 119).toList == [45, 120]) = false := (op_eq 119 120).trans (by decide)
  obtain ⟨a, cap, hv, _⟩ := hF
  subst hv
  have hn1 : (fs.length : Int) ≤ 140737488355328 := by omega
  clear hn
  go_enter Tryd.func24, Tryd.ntmps24
  go_upto_region 2 with fail
  generalize w.alloc (Obj.cells #[.int .i64 0, .string noB, .bool false] 28) = W1 at *
  go_loopw [7, 8] (fun v7 v8 wr => ∃ k : Nat, k ≤ fs.length ∧ v7 = .int .i64 k ∧ Hid (Below W1.heap.size W1 wr ∧ (fs.drop k).find? (fun f => decide (f.path = x)) = fs.find? (fun f => decide (f.path = x)))) (fun v7 v8 _ => fs.length - (intOf v7).toNat)
  case atStart => exact ⟨0, Nat.zero_le _, rfl, Lib.hid ⟨Below.refl _ _, rfl⟩⟩
  case round =>
    obtain ⟨k, hk, rfl, HH⟩ := hrel
    have hi := cell_still (w := w) HI.out HH.out.1
    have HI1 := Lib.hid hi
    have HB1 := Lib.hid (HB.out.trans (HH.out.1.mono HB.out.size))
    by_cases hlt : k < fs.length
    · have hlt1 : (k : Int) < fs.length := by omega
      obtain ⟨b, off, rfl, hfc⟩ := InF.fc HF.out HH.out.1 hlt
      have hd : fs.drop k = fs[k] :: fs.drop (k + 1) := List.drop_eq_getElem_cons hlt
      generalize fs[k] = f at *
      obtain ⟨g0, g1, g2, g3, g4, g5, g6, g7, g8, g9, g10⟩ := hfc
      have hpx : (f.path.toList == x.toList) = decide (f.path = x) := eq_text _ _
      by_cases hp : f.path = x
      · have hq : decide (f.path = x) = true := decide_eq_true hp
        rw [hq] at hpx
        have HR : Hid (ofS 119 x fs = .inl (truthN (f.is && sayS 119 f))) := Lib.hid (by rw [HS.out, ← HH.out.2, hd]; simp [List.find?_cons, hp])
        clear hp hq hd hk hi
        obtain ⟨fi, hfi⟩ : ∃ fi, f.is = fi := ⟨_, rfl⟩
        rw [hfi] at g1 HR
        clear hfi
        have hi2 : ∀ o, IsT (wr.alloc o) w.heap.size 0 noB false := fun o => cell_still (w := w) HI1.out ((Below.refl _ _).alloc (Nat.le_refl _) o)
        have HI2 := Lib.hid hi2
        have c0 : ∀ o, (wr.alloc o).cell? ⟨w.heap.size, 0, none⟩ = some (.int .i64 0) := fun o => heap_cell (hi2 o) 0
        have c1 : ∀ o, (wr.alloc o).cell? ⟨w.heap.size, 1, none⟩ = some (.string noB) := fun o => heap_cell (hi2 o) 1
        have c2 : ∀ o, (wr.alloc o).cell? ⟨w.heap.size, 2, none⟩ = some (.bool false) := fun o => heap_cell (hi2 o) 2
        have f0 : ∀ o, (wr.alloc o).frozen? ⟨w.heap.size, 0, none⟩ = false := fun o => heap_free (hi2 o) 0
        have f1 : ∀ o, (wr.alloc o).frozen? ⟨w.heap.size, 1, none⟩ = false := fun o => heap_free (hi2 o) 1
        have f2 : ∀ o, (wr.alloc o).frozen? ⟨w.heap.size, 2, none⟩ = false := fun o => heap_free (hi2 o) 2
        clear hi2
        cases fi with
        | false =>
          go_wp2
          exact leave24 w.heap.size rfl (put3 (HI2.out _) _ _ _) ⟨by rw [HR.out]; rfl, below3 (HB1.out.alloc HB1.out.size _) (Nat.le_refl _) _ _ _⟩
        | true =>
          clear c0 c1 c2 f0 f1 f2
          go_wp2_with fail
          refine (rtruth_lit _ _).mono ?_
          rintro e w2 ⟨rfl, hb2⟩
          have hi3 := cell_still (w := w) (HI2.out _) hb2
          have HI3 := Lib.hid hi3
          have HB3 := Lib.hid ((HB1.out.alloc HB1.out.size _).trans (hb2.mono (HB1.out.alloc HB1.out.size _).size))
          have c0 := heap_cell hi3 0
          have c1 := heap_cell hi3 1
          have c2 := heap_cell hi3 2
          have f0 := heap_free hi3 0
          have f1 := heap_free hi3 1
          have f2 := heap_free hi3 2
          clear hi3 hb2
          go_wp2
          exact leave24 w.heap.size rfl (put3 HI3.out _ _ _) ⟨by rw [HR.out]; rfl, below3 HB3.out (Nat.le_refl _) _ _ _⟩
      · have hq : decide (f.path = x) = false := decide_eq_false hp
        rw [hq] at hpx
        have HN : Hid ((fs.drop (k + 1)).find? (fun f => decide (f.path = x)) = fs.find? (fun f => decide (f.path = x))) := Lib.hid (by rw [← HH.out.2, hd]; simp [List.find?_cons, hp])
        clear hp hq hd hi
        go_wp2
        go_roundw
        case rel => exact ⟨k + 1, by omega, by go_num, Lib.hid ⟨HH.out.1.alloc HH.out.1.size _, HN.out⟩⟩
        case measure => simp [intOf]; omega
    · have hlt1 : ¬ (k : Int) < fs.length := by omega
      have HR : Hid (ofS 119 x fs = .inr x) := Lib.hid (by
        rw [HS.out, ← HH.out.2, List.drop_of_length_le (by omega)]; rfl)
      have c0 := heap_cell hi 0
      have c1 := heap_cell hi 1
      have c2 := heap_cell hi 2
      have f0 := heap_free hi 0
      have f1 := heap_free hi 1
      have f2 := heap_free hi 2
      clear hi
      go_wp2
      exact leave24 w.heap.size rfl (put3 HI1.out _ _ _) ⟨by rw [HR.out]; rfl, below3 HB1.out (Nat.le_refl _) _ _ _⟩
set_option maxHeartbeats 4000000 in
set_option maxRecDepth 100000 in
theorem of_120 (x : ByteArray) (v : Value) (fs : List FactS) (w : World) (hF : InF w v fs) (hn : fs.length ≤ 140737488355328) :
    Calls Tryd.prog 24 #[.string (b2 45 120), .string x, v] w (RT (told (ofS 120 x fs)) w) := by
  have HI := Lib.hid (new_told w)
  have HB := Lib.hid (new_below w)
  have HF := Lib.hid (hF.below (new_below w))
  have HS : Hid (ofS 120 x fs = match fs.find? (fun f => decide (f.path = x)) with
    | none => .inr x
    | some f => .inl (truthN (f.is && sayS 120 f))) := Lib.hid rfl
  have o102 : ((b2 45 120).toList == [45, 102]) = false := (op_eq 120 102).trans (by decide)
  have o100 : ((b2 45 120).toList == [45, 100]) = false := (op_eq 120 100).trans (by decide)
  have o99 : ((b2 45 120).toList == [45, 99]) = false := (op_eq 120 99).trans (by decide)
  have o115 : ((b2 45 120).toList == [45, 115]) = false := (op_eq 120 115).trans (by decide)
  have o114 : ((b2 45 120).toList == [45, 114]) = false := (op_eq 120 114).trans (by decide)
  have o119 : ((b2 45 120).toList == [45, 119]) = false := (op_eq 120 119).trans (by decide)
  have o120 : ((b2 45 120).toList == [45, 120]) = true := (op_eq 120 120).trans (by decide)
  obtain ⟨a, cap, hv, _⟩ := hF
  subst hv
  have hn1 : (fs.length : Int) ≤ 140737488355328 := by omega
  clear hn
  go_enter Tryd.func24, Tryd.ntmps24
  go_upto_region 2 with fail
  generalize w.alloc (Obj.cells #[.int .i64 0, .string noB, .bool false] 28) = W1 at *
  go_loopw [7, 8] (fun v7 v8 wr => ∃ k : Nat, k ≤ fs.length ∧ v7 = .int .i64 k ∧ Hid (Below W1.heap.size W1 wr ∧ (fs.drop k).find? (fun f => decide (f.path = x)) = fs.find? (fun f => decide (f.path = x)))) (fun v7 v8 _ => fs.length - (intOf v7).toNat)
  case atStart => exact ⟨0, Nat.zero_le _, rfl, Lib.hid ⟨Below.refl _ _, rfl⟩⟩
  case round =>
    obtain ⟨k, hk, rfl, HH⟩ := hrel
    have hi := cell_still (w := w) HI.out HH.out.1
    have HI1 := Lib.hid hi
    have HB1 := Lib.hid (HB.out.trans (HH.out.1.mono HB.out.size))
    by_cases hlt : k < fs.length
    · have hlt1 : (k : Int) < fs.length := by omega
      obtain ⟨b, off, rfl, hfc⟩ := InF.fc HF.out HH.out.1 hlt
      have hd : fs.drop k = fs[k] :: fs.drop (k + 1) := List.drop_eq_getElem_cons hlt
      generalize fs[k] = f at *
      obtain ⟨g0, g1, g2, g3, g4, g5, g6, g7, g8, g9, g10⟩ := hfc
      have hpx : (f.path.toList == x.toList) = decide (f.path = x) := eq_text _ _
      by_cases hp : f.path = x
      · have hq : decide (f.path = x) = true := decide_eq_true hp
        rw [hq] at hpx
        have HR : Hid (ofS 120 x fs = .inl (truthN (f.is && sayS 120 f))) := Lib.hid (by rw [HS.out, ← HH.out.2, hd]; simp [List.find?_cons, hp])
        clear hp hq hd hk hi
        obtain ⟨fi, hfi⟩ : ∃ fi, f.is = fi := ⟨_, rfl⟩
        rw [hfi] at g1 HR
        clear hfi
        have hi2 : ∀ o, IsT (wr.alloc o) w.heap.size 0 noB false := fun o => cell_still (w := w) HI1.out ((Below.refl _ _).alloc (Nat.le_refl _) o)
        have HI2 := Lib.hid hi2
        have c0 : ∀ o, (wr.alloc o).cell? ⟨w.heap.size, 0, none⟩ = some (.int .i64 0) := fun o => heap_cell (hi2 o) 0
        have c1 : ∀ o, (wr.alloc o).cell? ⟨w.heap.size, 1, none⟩ = some (.string noB) := fun o => heap_cell (hi2 o) 1
        have c2 : ∀ o, (wr.alloc o).cell? ⟨w.heap.size, 2, none⟩ = some (.bool false) := fun o => heap_cell (hi2 o) 2
        have f0 : ∀ o, (wr.alloc o).frozen? ⟨w.heap.size, 0, none⟩ = false := fun o => heap_free (hi2 o) 0
        have f1 : ∀ o, (wr.alloc o).frozen? ⟨w.heap.size, 1, none⟩ = false := fun o => heap_free (hi2 o) 1
        have f2 : ∀ o, (wr.alloc o).frozen? ⟨w.heap.size, 2, none⟩ = false := fun o => heap_free (hi2 o) 2
        clear hi2
        cases fi with
        | false =>
          go_wp2
          exact leave24 w.heap.size rfl (put3 (HI2.out _) _ _ _) ⟨by rw [HR.out]; rfl, below3 (HB1.out.alloc HB1.out.size _) (Nat.le_refl _) _ _ _⟩
        | true =>
          clear c0 c1 c2 f0 f1 f2
          go_wp2_with fail
          refine (rtruth_lit _ _).mono ?_
          rintro e w2 ⟨rfl, hb2⟩
          have hi3 := cell_still (w := w) (HI2.out _) hb2
          have HI3 := Lib.hid hi3
          have HB3 := Lib.hid ((HB1.out.alloc HB1.out.size _).trans (hb2.mono (HB1.out.alloc HB1.out.size _).size))
          have c0 := heap_cell hi3 0
          have c1 := heap_cell hi3 1
          have c2 := heap_cell hi3 2
          have f0 := heap_free hi3 0
          have f1 := heap_free hi3 1
          have f2 := heap_free hi3 2
          clear hi3 hb2
          go_wp2
          exact leave24 w.heap.size rfl (put3 HI3.out _ _ _) ⟨by rw [HR.out]; rfl, below3 HB3.out (Nat.le_refl _) _ _ _⟩
      · have hq : decide (f.path = x) = false := decide_eq_false hp
        rw [hq] at hpx
        have HN : Hid ((fs.drop (k + 1)).find? (fun f => decide (f.path = x)) = fs.find? (fun f => decide (f.path = x))) := Lib.hid (by rw [← HH.out.2, hd]; simp [List.find?_cons, hp])
        clear hp hq hd hi
        go_wp2
        go_roundw
        case rel => exact ⟨k + 1, by omega, by go_num, Lib.hid ⟨HH.out.1.alloc HH.out.1.size _, HN.out⟩⟩
        case measure => simp [intOf]; omega
    · have hlt1 : ¬ (k : Int) < fs.length := by omega
      have HR : Hid (ofS 120 x fs = .inr x) := Lib.hid (by
        rw [HS.out, ← HH.out.2, List.drop_of_length_le (by omega)]; rfl)
      have c0 := heap_cell hi 0
      have c1 := heap_cell hi 1
      have c2 := heap_cell hi 2
      have f0 := heap_free hi 0
      have f1 := heap_free hi 1
      have f2 := heap_free hi 2
      clear hi
      go_wp2
      exact leave24 w.heap.size rfl (put3 HI1.out _ _ _) ⟨by rw [HR.out]; rfl, below3 HB1.out (Nat.le_refl _) _ _ _⟩
end Go.Proofs.YthomdgejbkcljaaDoor
