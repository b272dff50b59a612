/- Expressions: variables as they lie; where one stands. -/
import Derived.Test.YtpjjdaenckedbaaDoorE
namespace Go.Proofs.YtpjjdaenckedbaaDoor
open Go.RowKit

def varL (v : VarS) : List Value := [.string (B v.name), .string (B v.value), .bool false, .bool false]
/-- Variables, as they lie. -/
def InV (w : World) (v : Value) (l : List VarS) : Prop :=
  ∃ a cap, v = .slice a l.length cap ∧ ∀ j (h : j < l.length), ∃ b off, a = some ⟨b, off, none⟩ ∧ ∀ i, i < 4 → w.cell? ⟨b, off + j * 4 + i, none⟩ = (varL l[j])[i]?
theorem InV.below {w w' : World} {v : Value} {l : List VarS} (h : InV w v l) (hb : Below w.heap.size w w') : InV w' v l := by
  obtain ⟨a, cap, rfl, hc⟩ := h
  refine ⟨a, cap, rfl, fun j hj => ?_⟩
  obtain ⟨b, off, ha, h⟩ := hc j hj
  refine ⟨b, off, ha, fun i hi => ?_⟩
  have h1 := h i hi
  have h2 : i < (varL l[j]).length := hi
  rw [List.getElem?_eq_getElem h2] at h1 ⊢
  rw [hb.cell (p := ⟨b, off + j * 4 + i, none⟩) (World.block_lt_of_cell? w _ h1)]
  exact h1
theorem same_var (v : VarS) (xb : Nat) (x : Bytes) (w : World) (hx : w.cell? ⟨xb, 0, none⟩ = some (.string (B x))) :
    Calls Tryd.prog 49 #[.agg #[.string (B v.name), .string (B v.value), .bool false, .bool false], .pointer (some ⟨xb, 0, none⟩)] w fun e w' => e = .returned (.bool (decide (v.name = x))) ∧ Below w.heap.size w w' := by
  have hx1 : ∀ o, (w.alloc o).cell? ⟨xb, 0, none⟩ = some (.string (B x)) := fun o => by
    rw [((Below.refl w.heap.size w).alloc (Nat.le_refl _) o).cell (p := ⟨xb, 0, none⟩) (World.block_lt_of_cell? w ⟨xb, 0, none⟩ hx)]; exact hx
  have he : ((B v.name).toList == (B x).toList) = decide (v.name = x) := by rw [B_list, B_list, Bool.eq_iff_iff]; simp
  obtain ⟨q, hq⟩ : ∃ q, decide (v.name = x) = q := ⟨_, rfl⟩
  rw [hq] at he ⊢
  clear hq
  go_enter Tryd.func49, Tryd.ntmps49
  go_wp2
  go_ret
  exact ⟨rfl, (Below.refl _ _).alloc (Nat.le_refl _) _⟩
/-- Where a name stands. -/
def findI (x : Bytes) : List VarS → Int → Int
  | [], _ => -1
  | v :: l, i => if v.name = x then i else findI x l (i + 1)
set_option maxHeartbeats 1000000 in
theorem index_any (v : Value) (l : List VarS) (xb : Nat) (x : Bytes) (w : World) (hV : InV w v l) (hn : l.length ≤ 140737488355328) (hx : w.cell? ⟨xb, 0, none⟩ = some (.string (B x))) :
    Calls Tryd.prog 48 #[v, .func (.func 49) #[] #[.pointer (some ⟨xb, 0, none⟩)]] w fun e w' => e = .returned (.int .i64 (findI x l 0)) ∧ Below w.heap.size w w' := by
  obtain ⟨a, cap, rfl, hc⟩ := hV
  have HC := Lib.hid hc
  have HX := Lib.hid hx
  clear hc hx
  have hn1 : (l.length : Int) ≤ 140737488355328 := by omega
  clear hn
  go_enter Tryd.func48, Tryd.ntmps48
  go_wp2
  go_loopw [5, 8] (fun v5 v8 wr => ∃ k : Nat, k ≤ l.length ∧ v8 = .int .i64 k ∧ Hid (Below w.heap.size w wr ∧ findI x (l.drop k) k = findI x l 0)) (fun v5 v8 _ => l.length - (intOf v8).toNat)
  case atStart => exact ⟨0, Nat.zero_le _, rfl, Lib.hid ⟨Below.refl _ _, rfl⟩⟩
  case round =>
    obtain ⟨k, hk, rfl, HH⟩ := hrel
    by_cases hlt : k < l.length
    · have hlt1 : (k : Int) < l.length := by omega
      obtain ⟨b, off, rfl, hcc⟩ := HC.out k hlt
      have hd : l.drop k = l[k] :: l.drop (k + 1) := List.drop_eq_getElem_cons hlt
      generalize l[k] = f at *
      have hcw : ∀ i, i < 4 → wr.cell? ⟨b, off + k * 4 + i, none⟩ = (varL f)[i]? := fun i hi => by
        have h1 := hcc i hi
        have h2 : i < (varL f).length := hi
        rw [List.getElem?_eq_getElem h2] at h1 ⊢
        rw [HH.out.1.cell (p := ⟨b, off + k * 4 + i, none⟩) (World.block_lt_of_cell? w _ h1)]
        exact h1
      have g0 : wr.cell? ⟨b, off + k * 4, none⟩ = some (.string (B f.name)) := hcw 0 (by omega)
      have g1 : wr.cell? ⟨b, off + k * 4 + 1, none⟩ = some (.string (B f.value)) := hcw 1 (by omega)
      have g2 : wr.cell? ⟨b, off + k * 4 + 2, none⟩ = some (.bool false) := hcw 2 (by omega)
      have g3 : wr.cell? ⟨b, off + k * 4 + 3, none⟩ = some (.bool false) := hcw 3 (by omega)
      have HS : Hid ((if f.name = x then (k : Int) else findI x (l.drop (k + 1)) ((k + 1 : Nat) : Int)) = findI x l 0) := Lib.hid (by rw [← HH.out.2, hd]; rfl)
      clear hcc hcw hd
      have HA := Lib.hid (same_var f xb x wr (by rw [HH.out.1.cell (p := ⟨xb, 0, none⟩) (World.block_lt_of_cell? w _ HX.out)]; exact HX.out))
      by_cases hp : f.name = x
      · have hq : decide (f.name = x) = true := decide_eq_true hp
        rw [hq] at HA
        have HR : Hid (findI x l 0 = k) := Lib.hid (by rw [← HS.out, if_pos hp])
        clear hp hq
        go_wp2_with fail
        refine HA.out.mono ?_
        rintro e w1 ⟨rfl, hb⟩
        have HB := Lib.hid (HH.out.1.trans (hb.mono HH.out.1.size))
        clear hb
        go_wp2
        go_ret
        exact ⟨by rw [HR.out]; rfl, HB.out⟩
      · have hq : decide (f.name = x) = false := decide_eq_false hp
        rw [hq] at HA
        have HR : Hid (findI x (l.drop (k + 1)) ((k + 1 : Nat) : Int) = findI x l 0) := Lib.hid (by rw [← HS.out, if_neg hp])
        clear hp hq
        go_wp2_with fail
        refine HA.out.mono ?_
        rintro e w1 ⟨rfl, hb⟩
        have HB := Lib.hid (HH.out.1.trans (hb.mono HH.out.1.size))
        clear hb
        go_wp2
        go_roundw
        case rel => exact ⟨k + 1, by omega, by go_num, Lib.hid ⟨HB.out, HR.out⟩⟩
        case measure => simp [intOf]; omega
    · have hlt1 : ¬ (k : Int) < l.length := by omega
      have HR : Hid (findI x l 0 = -1) := Lib.hid (by rw [← HH.out.2, List.drop_of_length_le (by omega)]; rfl)
      go_wp2
      go_ret
      exact ⟨by rw [HR.out]; rfl, HH.out.1⟩
theorem find_any (v : Value) (l : List VarS) (x : Bytes) (w : World) (hV : InV w v l) (hn : l.length ≤ 140737488355328) :
    Calls Tryd.prog 38 #[v, .string (B x)] w fun e w' => e = .returned (.int .i64 (findI x l 0)) ∧ Below w.heap.size w w' := by
  have hb0 := (Below.refl w.heap.size w).alloc (Nat.le_refl _) (.cells #[.string (B x)] 9)
  have HI := Lib.hid (index_any v l w.heap.size x _ (hV.below hb0) hn (heap_cell (at_new w (.cells #[.string (B x)] 9)) 0))
  have HB := Lib.hid hb0
  obtain ⟨a, cap, rfl, _⟩ := hV
  clear hb0
  go_enter Tryd.func38, Tryd.ntmps38
  go_wp2_with fail
  refine HI.out.mono ?_
  rintro e w1 ⟨rfl, hb⟩
  have HB1 := Lib.hid (HB.out.trans (hb.mono (by simp)))
  clear hb
  go_wp2
  go_ret
  exact ⟨rfl, HB1.out⟩
theorem findI_none (x : Bytes) : ∀ (l : List VarS) (i : Int), findV x l = none → findI x l i = -1
  | [], _, _ => rfl
  | f :: l, i, h => by
    by_cases hp : f.name = x
    · simp [findV, hp] at h
    · have h' : findV x l = none := by simpa [findV, hp] using h
      rw [findI, if_neg hp, findI_none x l _ h']
theorem findI_some (x s : Bytes) : ∀ (l : List VarS) (i : Nat), findV x l = some s → ∃ k : Nat, ∃ h : k < l.length, l[k].value = s ∧ findI x l i = ((i + k : Nat) : Int) ∧ ∀ v, putV x v l = l.set k ⟨l[k].name, v⟩
  | [], _, h => by cases h
  | g :: l, i, h => by
    by_cases hp : g.name = x
    · have hg : g.value = s := by simpa [findV, hp] using h
      exact ⟨0, by simp, hg, by rw [findI, if_pos hp]; simp, fun v => by simp [putV, hp]⟩
    · have h' : findV x l = some s := by simpa [findV, hp] using h
      obtain ⟨k, hk, h1, h2, h3⟩ := findI_some x s l (i + 1) h'
      refine ⟨k + 1, by simpa using hk, by simpa using h1, ?_, fun v => by simp [putV, hp, h3]⟩
      rw [findI, if_neg hp]
      have e : ((i : Int) + 1) = ((i + 1 : Nat) : Int) := by omega
      rw [e, h2]
      congr 1; omega
theorem putV_none (x v : Bytes) : ∀ (l : List VarS), findV x l = none → putV x v l = l ++ [⟨x, v⟩]
  | [], _ => rfl
  | f :: l, h => by
    by_cases hp : f.name = x
    · simp [findV, hp] at h
    · have h' : findV x l = none := by simpa [findV, hp] using h
      rw [putV, if_neg hp, putV_none x v l h']; rfl
theorem findV_mem {x s : Bytes} : ∀ {l : List VarS}, findV x l = some s → ∃ v ∈ l, v.value = s
  | [], h => by cases h
  | f :: l, h => by
    by_cases hp : f.name = x
    · exact ⟨f, by simp, by simpa [findV, hp] using h⟩
    · have h' : findV x l = some s := by simpa [findV, hp] using h
      obtain ⟨v, h1, h2⟩ := findV_mem h'
      exact ⟨v, by simp [h1], h2⟩
end Go.Proofs.YtpjjdaenckedbaaDoor
