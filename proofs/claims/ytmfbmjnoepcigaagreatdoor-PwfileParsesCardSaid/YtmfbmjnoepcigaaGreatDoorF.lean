/- Users, as they lie; who has a name, who a number. -/
import Derived.Test.YtmfbmjnoepcigaaGreatDoorCut
namespace Go.Proofs.YtmfbmjnoepcigaaGreatDoor
open Go.RowKit

theorem heap_cell {w : World} {b : Nat} {C : Array Value} {T : TypeId} {f : Nat × Nat} (h : w.heap[b]? = some (.cells C T f)) (i : Nat) : w.cell? ⟨b, i, none⟩ = C[i]? := by simp [World.cell?, h]
theorem at_new (w : World) (o : Obj) : (w.alloc o).heap[w.heap.size]? = some o := by
  show (w.heap.push o)[w.heap.size]? = some o
  simp
theorem eq_text (a b : ByteArray) : (a.toList == b.toList) = decide (a = b) := by
  rw [toList_data, toList_data]
  by_cases h : a = b
  · subst h; simp
  · rw [decide_eq_false h]
    exact beq_eq_false_iff_ne.2 fun e => h (ba_eq e)
def userC (f : UserS) : Array Value := #[.string f.name, .string f.pass, .int .i64 f.id, .int .i64 f.group, .string f.home, .string f.shell]
/-- Users, as they lie. -/
def InU (w : World) (v : Value) (fs : List UserS) : Prop :=
  ∃ a cap, v = .slice a fs.length cap ∧ ∀ j (h : j < fs.length), ∃ b off, a = some ⟨b, off, none⟩ ∧ ∀ i, i < 6 → w.cell? ⟨b, off + j * 6 + i, none⟩ = (userC fs[j])[i]?
theorem InU.below {w w' : World} {v : Value} {fs : List UserS} (h : InU w v fs) (hb : Below w.heap.size w w') : InU w' v fs := by
  obtain ⟨a, cap, rfl, hc⟩ := h
  refine ⟨a, cap, rfl, fun j hj => ?_⟩
  obtain ⟨b, off, ha, h⟩ := hc j hj
  refine ⟨b, off, ha, fun i hi => ?_⟩
  have h1 := h i hi
  have h2 : i < (userC fs[j]).size := hi
  rw [Array.getElem?_eq_getElem h2] at h1 ⊢
  rw [hb.cell (p := ⟨b, off + j * 6 + i, none⟩) (World.block_lt_of_cell? w _ h1)]
  exact h1
/-- The cells of one user. -/
structure UC (w : World) (b o : Nat) (f : UserS) : Prop where
  g0 : w.cell? ⟨b, o, none⟩ = some (.string f.name)
  g1 : w.cell? ⟨b, o + 1, none⟩ = some (.string f.pass)
  g2 : w.cell? ⟨b, o + 2, none⟩ = some (.int .i64 f.id)
  g3 : w.cell? ⟨b, o + 3, none⟩ = some (.int .i64 f.group)
  g4 : w.cell? ⟨b, o + 4, none⟩ = some (.string f.home)
  g5 : w.cell? ⟨b, o + 5, none⟩ = some (.string f.shell)
theorem InU.uc {w w' : World} {a : Option Addr} {cap : Nat} {fs : List UserS} (h : InU w (.slice a fs.length cap) fs) (hb : Below w.heap.size w w') {k : Nat} (hk : k < fs.length) : ∃ b off, a = some ⟨b, off, none⟩ ∧ UC w' b (off + k * 6) fs[k] := by
  obtain ⟨a', cap', hv, hc⟩ := h.below hb
  obtain ⟨rfl, rfl⟩ : a = a' ∧ cap = cap' := by simp at hv; exact ⟨hv.1, hv.2⟩
  obtain ⟨b, off, ha, h⟩ := hc k hk
  exact ⟨b, off, ha, h 0 (by omega), h 1 (by omega), h 2 (by omega), h 3 (by omega), h 4 (by omega), h 5 (by omega)⟩
/-- Where the first user stands of whom p is true. -/
def findU (p : UserS → Bool) : List UserS → Int → Int
  | [], _ => -1
  | f :: l, i => if p f = true then i else findU p l (i + 1)
theorem sameat_any (f : UserS) (xb : Nat) (x : ByteArray) (w : World) (hx : w.cell? ⟨xb, 0, none⟩ = some (.string x)) :
    Calls Tryz.prog 37 #[.agg (userC f), .pointer (some ⟨xb, 0, none⟩)] w fun e w' => e = .returned (.bool (decide (f.name = x))) ∧ Below w.heap.size w w' := by
  unfold userC
  have hx1 : ∀ o, (w.alloc o).cell? ⟨xb, 0, none⟩ = some (.string x) := fun o => by
    rw [((Below.refl w.heap.size w).alloc (Nat.le_refl _) o).cell (p := ⟨xb, 0, none⟩) (World.block_lt_of_cell? w ⟨xb, 0, none⟩ hx)]; exact hx
  have he : (f.name.toList == x.toList) = decide (f.name = x) := eq_text _ _
  obtain ⟨q, hq⟩ : ∃ q, decide (f.name = x) = q := ⟨_, rfl⟩
  rw [hq] at he ⊢
  clear hq
  go_enter Tryz.func37, Tryz.ntmps37
  go_wp2
  go_ret
  exact ⟨rfl, (Below.refl _ _).alloc (Nat.le_refl _) _⟩
theorem sameof_any (f : UserS) (xb : Nat) (x : Int) (w : World) (hx : w.cell? ⟨xb, 0, none⟩ = some (.int .i64 x)) :
    Calls Tryz.prog 31 #[.agg (userC f), .pointer (some ⟨xb, 0, none⟩)] w fun e w' => e = .returned (.bool (decide (f.id = x))) ∧ Below w.heap.size w w' := by
  unfold userC
  have hx1 : ∀ o, (w.alloc o).cell? ⟨xb, 0, none⟩ = some (.int .i64 x) := fun o => by
    rw [((Below.refl w.heap.size w).alloc (Nat.le_refl _) o).cell (p := ⟨xb, 0, none⟩) (World.block_lt_of_cell? w ⟨xb, 0, none⟩ hx)]; exact hx
  have he : (f.id == x) = decide (f.id = x) := by
    by_cases h : f.id = x
    · rw [decide_eq_true h, h]; simp
    · rw [decide_eq_false h]; simpa using h
  obtain ⟨q, hq⟩ : ∃ q, decide (f.id = x) = q := ⟨_, rfl⟩
  rw [hq] at he ⊢
  clear hq
  go_enter Tryz.func31, Tryz.ntmps31
  go_wp2
  go_ret
  exact ⟨rfl, (Below.refl _ _).alloc (Nat.le_refl _) _⟩
set_option maxHeartbeats 1000000 in
theorem indexat_any (v : Value) (fs : List UserS) (xb : Nat) (x : ByteArray) (w : World) (hF : InU w v fs) (hn : fs.length ≤ 140737488355328) (hx : w.cell? ⟨xb, 0, none⟩ = some (.string x)) :
    Calls Tryz.prog 30 #[v, .func (.func 37) #[] #[.pointer (some ⟨xb, 0, none⟩)]] w fun e w' => e = .returned (.int .i64 (findU (fun f => decide (f.name = x)) fs 0)) ∧ Below w.heap.size w w' := by
  obtain ⟨a, cap, rfl, hc⟩ := hF
  have HC := Lib.hid hc
  have HX := Lib.hid hx
  clear hc hx
  have hn1 : (fs.length : Int) ≤ 140737488355328 := by omega
  clear hn
  obtain ⟨P, hP⟩ : ∃ P : UserS → Bool, (fun f => decide (f.name = x)) = P := ⟨_, rfl⟩
  rw [hP]
  have HP : Hid (∀ f : UserS, decide (f.name = x) = P f) := Lib.hid (fun f => by rw [← hP])
  clear hP
  go_enter Tryz.func30, Tryz.ntmps30
  go_wp2
  go_loopw [5, 8] (fun v5 v8 wr => ∃ k : Nat, k ≤ fs.length ∧ v8 = .int .i64 k ∧ Hid (Below w.heap.size w wr ∧ findU P (fs.drop k) k = findU P fs 0)) (fun v5 v8 _ => fs.length - (intOf v8).toNat)
  case atStart => exact ⟨0, Nat.zero_le _, rfl, Lib.hid ⟨Below.refl _ _, rfl⟩⟩
  case round =>
    obtain ⟨k, hk, rfl, HH⟩ := hrel
    by_cases hlt : k < fs.length
    · have hlt1 : (k : Int) < fs.length := by omega
      obtain ⟨b, off, rfl, hcc⟩ := HC.out k hlt
      have hd : fs.drop k = fs[k] :: fs.drop (k + 1) := List.drop_eq_getElem_cons hlt
      generalize fs[k] = f at *
      have hcw : ∀ i, i < 6 → wr.cell? ⟨b, off + k * 6 + i, none⟩ = (userC f)[i]? := fun i hi => by
        have h1 := hcc i hi
        have h2 : i < (userC f).size := hi
        rw [Array.getElem?_eq_getElem h2] at h1 ⊢
        rw [HH.out.1.cell (p := ⟨b, off + k * 6 + i, none⟩) (World.block_lt_of_cell? w _ h1)]
        exact h1
      have g0 : wr.cell? ⟨b, off + k * 6, none⟩ = some (.string f.name) := hcw 0 (by omega)
      have g1 : wr.cell? ⟨b, off + k * 6 + 1, none⟩ = some (.string f.pass) := hcw 1 (by omega)
      have g2 : wr.cell? ⟨b, off + k * 6 + 2, none⟩ = some (.int .i64 f.id) := hcw 2 (by omega)
      have g3 : wr.cell? ⟨b, off + k * 6 + 3, none⟩ = some (.int .i64 f.group) := hcw 3 (by omega)
      have g4 : wr.cell? ⟨b, off + k * 6 + 4, none⟩ = some (.string f.home) := hcw 4 (by omega)
      have g5 : wr.cell? ⟨b, off + k * 6 + 5, none⟩ = some (.string f.shell) := hcw 5 (by omega)
      have HS : Hid ((if P f = true then (k : Int) else findU P (fs.drop (k + 1)) ((k + 1 : Nat) : Int)) = findU P fs 0) := Lib.hid (by rw [← HH.out.2, hd]; rfl)
      clear hcc hcw hd
      have HA := Lib.hid (sameat_any f xb x wr (by rw [HH.out.1.cell (p := ⟨xb, 0, none⟩) (World.block_lt_of_cell? w _ HX.out)]; exact HX.out))
      unfold userC at HA
      rw [HP.out] at HA
      cases hp : P f with
      | true =>
        rw [hp] at HA
        have HR : Hid (findU P fs 0 = k) := Lib.hid (by rw [← HS.out, if_pos hp])
        clear hp HS
        go_wp2_with fail
        refine HA.out.mono ?_
        rintro e w1 ⟨rfl, hb⟩
        have HB := Lib.hid (HH.out.1.trans (hb.mono HH.out.1.size))
        clear hb
        go_wp2
        go_ret
        exact ⟨by rw [HR.out]; rfl, HB.out⟩
      | false =>
        rw [hp] at HA
        have HR : Hid (findU P (fs.drop (k + 1)) ((k + 1 : Nat) : Int) = findU P fs 0) := Lib.hid (by rw [← HS.out, if_neg (by rw [hp]; decide)])
        clear hp HS
        go_wp2_with fail
        refine HA.out.mono ?_
        rintro e w1 ⟨rfl, hb⟩
        have HB := Lib.hid (HH.out.1.trans (hb.mono HH.out.1.size))
        clear hb
        go_wp2
        go_roundw
        case rel => exact ⟨k + 1, by omega, by go_num, Lib.hid ⟨HB.out, HR.out⟩⟩
        case measure => simp [intOf]; omega
    · have hlt1 : ¬ (k : Int) < fs.length := by omega
      have HR : Hid (findU P fs 0 = -1) := Lib.hid (by rw [← HH.out.2, List.drop_of_length_le (by omega)]; rfl)
      go_wp2
      go_ret
      exact ⟨by rw [HR.out]; rfl, HH.out.1⟩
set_option maxHeartbeats 1000000 in
theorem indexof_any (v : Value) (fs : List UserS) (xb : Nat) (x : Int) (w : World) (hF : InU w v fs) (hn : fs.length ≤ 140737488355328) (hx : w.cell? ⟨xb, 0, none⟩ = some (.int .i64 x)) :
    Calls Tryz.prog 30 #[v, .func (.func 31) #[] #[.pointer (some ⟨xb, 0, none⟩)]] w fun e w' => e = .returned (.int .i64 (findU (fun f => decide (f.id = x)) fs 0)) ∧ Below w.heap.size w w' := by
  obtain ⟨a, cap, rfl, hc⟩ := hF
  have HC := Lib.hid hc
  have HX := Lib.hid hx
  clear hc hx
  have hn1 : (fs.length : Int) ≤ 140737488355328 := by omega
  clear hn
  obtain ⟨P, hP⟩ : ∃ P : UserS → Bool, (fun f => decide (f.id = x)) = P := ⟨_, rfl⟩
  rw [hP]
  have HP : Hid (∀ f : UserS, decide (f.id = x) = P f) := Lib.hid (fun f => by rw [← hP])
  clear hP
  go_enter Tryz.func30, Tryz.ntmps30
  go_wp2
  go_loopw [5, 8] (fun v5 v8 wr => ∃ k : Nat, k ≤ fs.length ∧ v8 = .int .i64 k ∧ Hid (Below w.heap.size w wr ∧ findU P (fs.drop k) k = findU P fs 0)) (fun v5 v8 _ => fs.length - (intOf v8).toNat)
  case atStart => exact ⟨0, Nat.zero_le _, rfl, Lib.hid ⟨Below.refl _ _, rfl⟩⟩
  case round =>
    obtain ⟨k, hk, rfl, HH⟩ := hrel
    by_cases hlt : k < fs.length
    · have hlt1 : (k : Int) < fs.length := by omega
      obtain ⟨b, off, rfl, hcc⟩ := HC.out k hlt
      have hd : fs.drop k = fs[k] :: fs.drop (k + 1) := List.drop_eq_getElem_cons hlt
      generalize fs[k] = f at *
      have hcw : ∀ i, i < 6 → wr.cell? ⟨b, off + k * 6 + i, none⟩ = (userC f)[i]? := fun i hi => by
        have h1 := hcc i hi
        have h2 : i < (userC f).size := hi
        rw [Array.getElem?_eq_getElem h2] at h1 ⊢
        rw [HH.out.1.cell (p := ⟨b, off + k * 6 + i, none⟩) (World.block_lt_of_cell? w _ h1)]
        exact h1
      have g0 : wr.cell? ⟨b, off + k * 6, none⟩ = some (.string f.name) := hcw 0 (by omega)
      have g1 : wr.cell? ⟨b, off + k * 6 + 1, none⟩ = some (.string f.pass) := hcw 1 (by omega)
      have g2 : wr.cell? ⟨b, off + k * 6 + 2, none⟩ = some (.int .i64 f.id) := hcw 2 (by omega)
      have g3 : wr.cell? ⟨b, off + k * 6 + 3, none⟩ = some (.int .i64 f.group) := hcw 3 (by omega)
      have g4 : wr.cell? ⟨b, off + k * 6 + 4, none⟩ = some (.string f.home) := hcw 4 (by omega)
      have g5 : wr.cell? ⟨b, off + k * 6 + 5, none⟩ = some (.string f.shell) := hcw 5 (by omega)
      have HS : Hid ((if P f = true then (k : Int) else findU P (fs.drop (k + 1)) ((k + 1 : Nat) : Int)) = findU P fs 0) := Lib.hid (by rw [← HH.out.2, hd]; rfl)
      clear hcc hcw hd
      have HA := Lib.hid (sameof_any f xb x wr (by rw [HH.out.1.cell (p := ⟨xb, 0, none⟩) (World.block_lt_of_cell? w _ HX.out)]; exact HX.out))
      unfold userC at HA
      rw [HP.out] at HA
      cases hp : P f with
      | true =>
        rw [hp] at HA
        have HR : Hid (findU P fs 0 = k) := Lib.hid (by rw [← HS.out, if_pos hp])
        clear hp HS
        go_wp2_with fail
        refine HA.out.mono ?_
        rintro e w1 ⟨rfl, hb⟩
        have HB := Lib.hid (HH.out.1.trans (hb.mono HH.out.1.size))
        clear hb
        go_wp2
        go_ret
        exact ⟨by rw [HR.out]; rfl, HB.out⟩
      | false =>
        rw [hp] at HA
        have HR : Hid (findU P (fs.drop (k + 1)) ((k + 1 : Nat) : Int) = findU P fs 0) := Lib.hid (by rw [← HS.out, if_neg (by rw [hp]; decide)])
        clear hp HS
        go_wp2_with fail
        refine HA.out.mono ?_
        rintro e w1 ⟨rfl, hb⟩
        have HB := Lib.hid (HH.out.1.trans (hb.mono HH.out.1.size))
        clear hb
        go_wp2
        go_roundw
        case rel => exact ⟨k + 1, by omega, by go_num, Lib.hid ⟨HB.out, HR.out⟩⟩
        case measure => simp [intOf]; omega
    · have hlt1 : ¬ (k : Int) < fs.length := by omega
      have HR : Hid (findU P fs 0 = -1) := Lib.hid (by rw [← HH.out.2, List.drop_of_length_le (by omega)]; rfl)
      go_wp2
      go_ret
      exact ⟨by rw [HR.out]; rfl, HH.out.1⟩
/-- Who is found. -/
theorem findU_none {p : UserS → Bool} : ∀ (fs : List UserS) (i : Int), (∀ f ∈ fs, p f = false) → findU p fs i = -1
  | [], _, _ => rfl
  | f :: l, i, h => by
    rw [findU, if_neg (by rw [h f (by simp)]; decide), findU_none l _ (fun g hg => h g (by simp [hg]))]
theorem findU_some {p : UserS → Bool} : ∀ (fs : List UserS) (i : Nat), (∃ f ∈ fs, p f = true) → ∃ k : Nat, ∃ h : k < fs.length, p fs[k] = true ∧ (∀ j (hj : j < k), p (fs[j]'(by omega)) = false) ∧ findU p fs i = ((i + k : Nat) : Int)
  | [], _, h => by obtain ⟨f, hf, _⟩ := h; cases hf
  | g :: l, i, h => by
    by_cases hp : p g = true
    · exact ⟨0, by simp, hp, fun j hj => absurd hj (Nat.not_lt_zero j), by rw [findU, if_pos hp]; simp⟩
    · obtain ⟨f, hf, hpf⟩ := h
      have hfl : f ∈ l := by
        rcases List.mem_cons.1 hf with rfl | hf
        · exact absurd hpf hp
        · exact hf
      obtain ⟨k, hk, h1, h2, h3⟩ := findU_some l (i + 1) ⟨f, hfl, hpf⟩
      refine ⟨k + 1, by simpa using hk, by simpa using h1, fun j hj => ?_, ?_⟩
      · cases j with
        | zero => simpa using hp
        | succ j => simpa using h2 j (by omega)
      · rw [findU, if_neg hp]
        have e : ((i : Int) + 1) = ((i + 1 : Nat) : Int) := by omega
        rw [e, h3]
        congr 1; omega
theorem findU_cases (p : UserS → Bool) (fs : List UserS) : (findU p fs 0 = -1 ∧ ∀ f ∈ fs, p f = false) ∨ ∃ k : Nat, ∃ h : k < fs.length, p fs[k] = true ∧ (∀ j (hj : j < k), p (fs[j]'(by omega)) = false) ∧ findU p fs 0 = (k : Int) := by
  by_cases h : ∃ f ∈ fs, p f = true
  · right
    obtain ⟨k, hk, h1, h2, h3⟩ := findU_some (p := p) fs 0 h
    exact ⟨k, hk, h1, h2, by rw [show (0 : Int) = ((0 : Nat) : Int) from rfl, h3]; simp⟩
  · left
    have h' : ∀ f ∈ fs, p f = false := fun f hf => by
      cases hp : p f with
      | false => rfl
      | true => exact absurd ⟨f, hf, hp⟩ h
    exact ⟨findU_none fs 0 h', h'⟩
end Go.Proofs.YtmfbmjnoepcigaaGreatDoor
