/- Facts of paths; which is a path's. -/
import Derived.Test.YthomdgejbkcljaaDoorE
namespace Go.Proofs.YthomdgejbkcljaaDoor
open Go.RowKit

def factC (f : FactS) : Array Value := #[.string f.path, .bool f.is, .int .i64 f.ino, .int .i64 f.kind, .int .i64 f.mode, .int .i64 f.owner, .int .i64 f.group, .int .i64 f.links, .int .i64 f.size, .int .i64 f.tty, .int .i64 f.may]
/-- Facts, as they lie. -/
def InF (w : World) (v : Value) (fs : List FactS) : Prop :=
  ∃ a cap, v = .slice a fs.length cap ∧ ∀ j (h : j < fs.length), ∃ b off, a = some ⟨b, off, none⟩ ∧ ∀ i, i < 11 → w.cell? ⟨b, off + j * 11 + i, none⟩ = (factC fs[j])[i]?
theorem InF.below {w w' : World} {v : Value} {fs : List FactS} (h : InF w v fs) (hb : Below w.heap.size w w') : InF w' v fs := by
  obtain ⟨a, cap, rfl, hc⟩ := h
  refine ⟨a, cap, rfl, fun j hj => ?_⟩
  obtain ⟨b, off, ha, h⟩ := hc j hj
  refine ⟨b, off, ha, fun i hi => ?_⟩
  have h1 := h i hi
  have h2 : i < (factC fs[j]).size := hi
  rw [Array.getElem?_eq_getElem h2] at h1 ⊢
  rw [hb.cell (p := ⟨b, off + j * 11 + i, none⟩) (World.block_lt_of_cell? w _ h1)]
  exact h1
theorem same_any (f : FactS) (xb : Nat) (x : ByteArray) (w : World) (hx : w.cell? ⟨xb, 0, none⟩ = some (.string x)) :
    Calls Tryd.prog 29 #[.agg (factC f), .pointer (some ⟨xb, 0, none⟩)] w fun e w' => e = .returned (.bool (decide (f.path = x))) ∧ Below w.heap.size w w' := by
  unfold factC
  have hx1 : ∀ o, (w.alloc o).cell? ⟨xb, 0, none⟩ = some (.string x) := fun o => by
    rw [((Below.refl w.heap.size w).alloc (Nat.le_refl _) o).cell (p := ⟨xb, 0, none⟩) (World.block_lt_of_cell? w ⟨xb, 0, none⟩ hx)]; exact hx
  have he : (f.path.toList == x.toList) = decide (f.path = x) := eq_text _ _
  obtain ⟨q, hq⟩ : ∃ q, decide (f.path = x) = q := ⟨_, rfl⟩
  rw [hq] at he ⊢
  clear hq
  go_enter Tryd.func29, Tryd.ntmps29
  go_wp2
  go_ret
  exact ⟨rfl, (Below.refl _ _).alloc (Nat.le_refl _) _⟩
/-- Where a path's fact stands. -/
def findI (x : ByteArray) : List FactS → Int → Int
  | [], _ => -1
  | f :: l, i => if f.path = x then i else findI x l (i + 1)
set_option maxHeartbeats 1000000 in
theorem index_any (v : Value) (fs : List FactS) (xb : Nat) (x : ByteArray) (w : World) (hF : InF w v fs) (hn : fs.length ≤ 140737488355328) (hx : w.cell? ⟨xb, 0, none⟩ = some (.string x)) :
    Calls Tryd.prog 28 #[v, .func (.func 29) #[] #[.pointer (some ⟨xb, 0, none⟩)]] w fun e w' => e = .returned (.int .i64 (findI x fs 0)) ∧ Below w.heap.size w w' := by
  obtain ⟨a, cap, rfl, hc⟩ := hF
  have HC := Lib.hid hc
  have HX := Lib.hid hx
  clear hc hx
  have hn1 : (fs.length : Int) ≤ 140737488355328 := by omega
  clear hn
  go_enter Tryd.func28, Tryd.ntmps28
  go_wp2
  go_loopw [5, 8] (fun v5 v8 wr => ∃ k : Nat, k ≤ fs.length ∧ v8 = .int .i64 k ∧ Hid (Below w.heap.size w wr ∧ findI x (fs.drop k) k = findI x fs 0)) (fun v5 v8 _ => fs.length - (intOf v8).toNat)
  case atStart => exact ⟨0, Nat.zero_le _, rfl, Lib.hid ⟨Below.refl _ _, rfl⟩⟩
  case round =>
    obtain ⟨k, hk, rfl, HH⟩ := hrel
    by_cases hlt : k < fs.length
    · have hlt1 : (k : Int) < fs.length := by omega
      obtain ⟨b, off, rfl, hcc⟩ := HC.out k hlt
      have hd : fs.drop k = fs[k] :: fs.drop (k + 1) := List.drop_eq_getElem_cons hlt
      generalize fs[k] = f at *
      have hcw : ∀ i, i < 11 → wr.cell? ⟨b, off + k * 11 + i, none⟩ = (factC f)[i]? := fun i hi => by
        have h1 := hcc i hi
        have h2 : i < (factC f).size := hi
        rw [Array.getElem?_eq_getElem h2] at h1 ⊢
        rw [HH.out.1.cell (p := ⟨b, off + k * 11 + i, none⟩) (World.block_lt_of_cell? w _ h1)]
        exact h1
      have g0 : wr.cell? ⟨b, off + k * 11, none⟩ = some (.string f.path) := hcw 0 (by omega)
      have g1 : wr.cell? ⟨b, off + k * 11 + 1, none⟩ = some (.bool f.is) := hcw 1 (by omega)
      have g2 : wr.cell? ⟨b, off + k * 11 + 2, none⟩ = some (.int .i64 f.ino) := hcw 2 (by omega)
      have g3 : wr.cell? ⟨b, off + k * 11 + 3, none⟩ = some (.int .i64 f.kind) := hcw 3 (by omega)
      have g4 : wr.cell? ⟨b, off + k * 11 + 4, none⟩ = some (.int .i64 f.mode) := hcw 4 (by omega)
      have g5 : wr.cell? ⟨b, off + k * 11 + 5, none⟩ = some (.int .i64 f.owner) := hcw 5 (by omega)
      have g6 : wr.cell? ⟨b, off + k * 11 + 6, none⟩ = some (.int .i64 f.group) := hcw 6 (by omega)
      have g7 : wr.cell? ⟨b, off + k * 11 + 7, none⟩ = some (.int .i64 f.links) := hcw 7 (by omega)
      have g8 : wr.cell? ⟨b, off + k * 11 + 8, none⟩ = some (.int .i64 f.size) := hcw 8 (by omega)
      have g9 : wr.cell? ⟨b, off + k * 11 + 9, none⟩ = some (.int .i64 f.tty) := hcw 9 (by omega)
      have g10 : wr.cell? ⟨b, off + k * 11 + 10, none⟩ = some (.int .i64 f.may) := hcw 10 (by omega)
      have HS : Hid ((if f.path = x then (k : Int) else findI x (fs.drop (k + 1)) ((k + 1 : Nat) : Int)) = findI x fs 0) := Lib.hid (by rw [← HH.out.2, hd]; rfl)
      clear hcc hcw hd
      have HA := Lib.hid (same_any f xb x wr (by rw [HH.out.1.cell (p := ⟨xb, 0, none⟩) (World.block_lt_of_cell? w _ HX.out)]; exact HX.out))
      unfold factC at HA
      by_cases hp : f.path = x
      · have hq : decide (f.path = x) = true := decide_eq_true hp
        rw [hq] at HA
        have HR : Hid (findI x fs 0 = k) := Lib.hid (by rw [← HS.out, if_pos hp])
        clear hp hq
        go_wp2_with fail
        refine HA.out.mono ?_
        rintro e w1 ⟨rfl, hb⟩
        have HB := Lib.hid (HH.out.1.trans (hb.mono HH.out.1.size))
        clear hb
        go_wp2
        go_ret
        exact ⟨by rw [HR.out]; rfl, HB.out⟩
      · have hq : decide (f.path = x) = false := decide_eq_false hp
        rw [hq] at HA
        have HR : Hid (findI x (fs.drop (k + 1)) ((k + 1 : Nat) : Int) = findI x fs 0) := Lib.hid (by rw [← HS.out, if_neg hp])
        clear hp hq
        go_wp2_with fail
        refine HA.out.mono ?_
        rintro e w1 ⟨rfl, hb⟩
        have HB := Lib.hid (HH.out.1.trans (hb.mono HH.out.1.size))
        clear hb
        go_wp2
        go_roundw
        case rel => exact ⟨k + 1, by omega, by go_num, Lib.hid ⟨HB.out, HR.out⟩⟩
        case measure => simp [intOf]; omega
    · have hlt1 : ¬ (k : Int) < fs.length := by omega
      have HR : Hid (findI x fs 0 = -1) := Lib.hid (by rw [← HH.out.2, List.drop_of_length_le (by omega)]; rfl)
      go_wp2
      go_ret
      exact ⟨by rw [HR.out]; rfl, HH.out.1⟩
theorem findI_none (x : ByteArray) : ∀ (fs : List FactS) (i : Int), fs.find? (fun f => decide (f.path = x)) = none → findI x fs i = -1
  | [], _, _ => rfl
  | f :: l, i, h => by
    by_cases hp : f.path = x
    · simp [List.find?_cons, hp] at h
    · have h' : l.find? (fun f => decide (f.path = x)) = none := by simpa [List.find?_cons, hp] using h
      rw [findI, if_neg hp, findI_none x l _ h']
theorem findI_some (x : ByteArray) (f : FactS) : ∀ (fs : List FactS) (i : Nat), fs.find? (fun f => decide (f.path = x)) = some f → ∃ k : Nat, ∃ h : k < fs.length, fs[k] = f ∧ findI x fs i = ((i + k : Nat) : Int)
  | [], _, h => by cases h
  | g :: l, i, h => by
    by_cases hp : g.path = x
    · have hg : g = f := by simpa [List.find?_cons, hp] using h
      exact ⟨0, by simp, hg, by rw [findI, if_pos hp]; simp⟩
    · have h' : l.find? (fun f => decide (f.path = x)) = some f := by simpa [List.find?_cons, hp] using h
      obtain ⟨k, hk, h1, h2⟩ := findI_some x f l (i + 1) h'
      refine ⟨k + 1, by simpa using hk, by simpa using h1, ?_⟩
      rw [findI, if_neg hp]
      have e : ((i : Int) + 1) = ((i + 1 : Nat) : Int) := by omega
      rw [e, h2]
      congr 1; omega
def toldEnd : Told → Ending
  | .inl n => .returned (.int .i64 n)
  | .inr x => .panicked [{ v := .iface 41 (.string x), recovered := false }]
def TP (t : Told) (w : World) (e : Ending) (w' : World) : Prop := e = toldEnd t ∧ Below w.heap.size w w'
/-- The cells of one fact. -/
structure FC (w : World) (b o : Nat) (f : FactS) : Prop where
  g0 : w.cell? ⟨b, o, none⟩ = some (.string f.path)
  g1 : w.cell? ⟨b, o + 1, none⟩ = some (.bool f.is)
  g2 : w.cell? ⟨b, o + 2, none⟩ = some (.int .i64 f.ino)
  g3 : w.cell? ⟨b, o + 3, none⟩ = some (.int .i64 f.kind)
  g4 : w.cell? ⟨b, o + 4, none⟩ = some (.int .i64 f.mode)
  g5 : w.cell? ⟨b, o + 5, none⟩ = some (.int .i64 f.owner)
  g6 : w.cell? ⟨b, o + 6, none⟩ = some (.int .i64 f.group)
  g7 : w.cell? ⟨b, o + 7, none⟩ = some (.int .i64 f.links)
  g8 : w.cell? ⟨b, o + 8, none⟩ = some (.int .i64 f.size)
  g9 : w.cell? ⟨b, o + 9, none⟩ = some (.int .i64 f.tty)
  g10 : w.cell? ⟨b, o + 10, none⟩ = some (.int .i64 f.may)
theorem InF.fc {w w' : World} {a : Option Addr} {cap : Nat} {fs : List FactS} (h : InF w (.slice a fs.length cap) fs) (hb : Below w.heap.size w w') {k : Nat} (hk : k < fs.length) : ∃ b off, a = some ⟨b, off, none⟩ ∧ FC w' b (off + k * 11) fs[k] := by
  obtain ⟨a', cap', hv, hc⟩ := h.below hb
  obtain ⟨rfl, rfl⟩ : a = a' ∧ cap = cap' := by simp at hv; exact ⟨hv.1, hv.2⟩
  obtain ⟨b, off, ha, h⟩ := hc k hk
  exact ⟨b, off, ha, h 0 (by omega), h 1 (by omega), h 2 (by omega), h 3 (by omega), h 4 (by omega), h 5 (by omega), h 6 (by omega), h 7 (by omega), h 8 (by omega), h 9 (by omega), h 10 (by omega)⟩
end Go.Proofs.YthomdgejbkcljaaDoor
