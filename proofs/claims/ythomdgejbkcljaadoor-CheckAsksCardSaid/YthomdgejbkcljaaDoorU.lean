/- CheckAsks. -/
import Derived.Test.YthomdgejbkcljaaDoorR
import Derived.Test.YthomdgejbkcljaaDoorS
namespace Go.Proofs.YthomdgejbkcljaaDoor
open Go.RowKit

/-- With a fact of the path that is asked for there is an answer. -/
def Answers (t : Told) (t' : FactS → Told) (y : ByteArray) : Prop := ∀ x, t = .inr x → x = y ∧ ∀ f : FactS, f.path = x → ∃ n, t' f = .inl n ∧ n < 2
theorem truthN_lt (b : Bool) : truthN b < 2 := by cases b <;> decide
theorem not_answers {t : Told} {t' : FactS → Told} {y : ByteArray} (h : Answers t t' y) : Answers (notS t) (fun f => notS (t' f)) y := fun x hx => by
  cases t with
  | inl n => cases hx
  | inr z =>
    obtain rfl : z = x := Sum.inr.inj hx
    obtain ⟨h1, h2⟩ := h z rfl
    refine ⟨h1, fun f hf => ?_⟩
    obtain ⟨n, e, hn⟩ := h2 f hf
    refine ⟨1 - n, ?_, by omega⟩
    show notS (t' f) = _
    rw [e]
    show Sum.inl (if n = 2 then 2 else 1 - n) = _
    rw [if_neg (by omega)]
theorem one_answers (a b : ByteArray) : Answers (oneS a b []) (fun f => oneS a b [f]) b := fun x hx => by
  unfold oneS at hx
  split at hx
  · cases hx
  · rename_i h1
    split at hx
    · cases hx
    · rename_i h2
      split at hx
      · rename_i h3
        obtain rfl : b = x := Sum.inr.inj hx
        refine ⟨rfl, fun f hf => ⟨truthN (saysS a f), ?_, truthN_lt _⟩⟩
        show oneS a b [f] = _
        unfold oneS
        rw [if_neg h1, if_neg h2, if_pos h3]
        simp [List.find?_cons, hf]
      · cases hx
theorem t2_answers (a b : ByteArray) : Answers (t2 a b []) (fun f => t2 a b [f]) b := by
  unfold t2
  by_cases h : a = b1 33
  · simp only [if_pos h]
    exact not_answers (fun x hx => by cases hx)
  · simp only [if_neg h]
    exact one_answers a b
theorem t3_answers (a b c : ByteArray) : Answers (t3 a b c []) (fun f => t3 a b c [f]) c := by
  unfold t3
  cases twoS a b c with
  | some t => exact fun x hx => by cases hx
  | none =>
    by_cases h : a = b1 33
    · simp only [if_pos h]
      exact not_answers (t2_answers b c)
    · simp only [if_neg h]
      exact fun x hx => by split at hx <;> cases hx
theorem t4_answers (a b c d : ByteArray) : Answers (t4 a b c d []) (fun f => t4 a b c d [f]) d ∨ Answers (t4 a b c d []) (fun f => t4 a b c d [f]) c := by
  unfold t4
  by_cases h : a = b1 33
  · simp only [if_pos h]
    exact .inl (not_answers (t3_answers b c d))
  · simp only [if_neg h]
    by_cases h2 : a = b1 40 ∧ d = b1 41
    · simp only [if_pos h2]
      exact .inr (t2_answers b c)
    · simp only [if_neg h2]
      exact .inl (fun x hx => by cases hx)
theorem tells_answers : ∀ (L : List ByteArray) (x : ByteArray), tellS L [] = .inr x → x ∈ L ∧ ∀ f : FactS, f.path = x → ∃ n, tellS L [f] = .inl n ∧ n < 2
  | [], x, h => by cases h
  | [a], x, h => by cases h
  | [a, b], x, h => by
    obtain ⟨rfl, h2⟩ := t2_answers a b x h
    exact ⟨by simp, h2⟩
  | [a, b, c], x, h => by
    obtain ⟨rfl, h2⟩ := t3_answers a b c x h
    exact ⟨by simp, h2⟩
  | [a, b, c, d], x, h => by
    obtain h1 | h1 := t4_answers a b c d
    · obtain ⟨rfl, h2⟩ := h1 x h
      exact ⟨by simp, h2⟩
    · obtain ⟨rfl, h2⟩ := h1 x h
      exact ⟨by simp, h2⟩
  | _ :: _ :: _ :: _ :: _ :: _, x, h => by cases h
theorem ck_ask {v u : Value} {L : List ByteArray} {fs : List FactS} {x : ByteArray} {W : World} (hn : tellS L fs = .inr x) (hL : ArgS W v L) (hz : ∀ s ∈ L, s.size ≤ 140737488355328) (hF : InF W u fs) (hl : fs.length ≤ 140737488355328) :
    Calls Tryd.prog 9 #[v, u] W fun e w' => e = .returned (.tuple #[.int .i64 0, .string x, .bool true]) ∧ Below W.heap.size W w' := by
  have h := check_any v u L fs W hL hz hF hl
  unfold CP at h
  rw [hn] at h
  exact h
theorem box_cells {w w1 : World} {cs : Array Value} {u : TypeId} (hb : Below (w.alloc (.cells cs u)).heap.size (w.alloc (.cells cs u)) w1) (i : Nat) (hi : i < cs.size) : w1.cell? ⟨w.heap.size, i, none⟩ = some cs[i] := by
  rw [hb.cell (p := ⟨w.heap.size, i, none⟩) (by simp), heap_cell (at_new w _) i]
  simp [hi]
theorem wrap_succ {k n : Nat} (h : k < n) (hn : n ≤ 140737488355328) : wrap64 ((k : Int) + 1) = ((k + 1 : Nat) : Int) := by
  rw [IntWalk.wrap64_in _ ⟨by omega, by omega⟩]
  omega
theorem round_less {k n : Nat} {a : Int} (h : k < n) (ha : a = ((k + 1 : Nat) : Int)) : n - a.toNat < n - (k : Int).toNat := by
  subst ha
  simp only [Int.toNat_natCast]
  omega
theorem box_eight {w w1 w2 : World} {u : TypeId} {i0 i1 i2 i3 i4 i5 i6 i7 : Int} (hb : Below (w.alloc (.cells #[.int .i64 i0, .int .i64 i1, .int .i64 i2, .int .i64 i3, .int .i64 i4, .int .i64 i5, .int .i64 i6, .int .i64 i7] u)).heap.size (w.alloc (.cells #[.int .i64 i0, .int .i64 i1, .int .i64 i2, .int .i64 i3, .int .i64 i4, .int .i64 i5, .int .i64 i6, .int .i64 i7] u)) w1) (hbb : Below w1.heap.size w1 w2) :
    w2.cell? ⟨w.heap.size, 0, none⟩ = some (.int .i64 i0) ∧ w2.cell? ⟨w.heap.size, 1, none⟩ = some (.int .i64 i1) ∧ w2.cell? ⟨w.heap.size, 2, none⟩ = some (.int .i64 i2) ∧ w2.cell? ⟨w.heap.size, 3, none⟩ = some (.int .i64 i3) ∧
    w2.cell? ⟨w.heap.size, 4, none⟩ = some (.int .i64 i4) ∧ w2.cell? ⟨w.heap.size, 5, none⟩ = some (.int .i64 i5) ∧ w2.cell? ⟨w.heap.size, 6, none⟩ = some (.int .i64 i6) ∧ w2.cell? ⟨w.heap.size, 7, none⟩ = some (.int .i64 i7) := by
  have h : ∀ (i : Nat) (v : Value), (#[Value.int .i64 i0, .int .i64 i1, .int .i64 i2, .int .i64 i3, .int .i64 i4, .int .i64 i5, .int .i64 i6, .int .i64 i7])[i]? = some v → w2.cell? ⟨w.heap.size, i, none⟩ = some v := fun i v hv => by
    have h1 : w1.cell? ⟨w.heap.size, i, none⟩ = some v := by
      rw [hb.cell (p := ⟨w.heap.size, i, none⟩) (by simp), heap_cell (at_new w _) i]
      exact hv
    rw [hbb.cell (p := ⟨w.heap.size, i, none⟩) (World.block_lt_of_cell? w1 _ h1)]
    exact h1
  exact ⟨h 0 _ rfl, h 1 _ rfl, h 2 _ rfl, h 3 _ rfl, h 4 _ rfl, h 5 _ rfl, h 6 _ rfl, h 7 _ rfl⟩
set_option maxHeartbeats 4000000 in
set_option maxRecDepth 100000 in
/-- CheckAsks. -/
theorem asks_law (v : Value) (L : List ByteArray) (is : Bool) (i0 i1 i2 i3 i4 i5 i6 i7 may : Int) (w : World) (hL : ArgS w v L) (hz : ∀ s ∈ L, s.size ≤ 140737488355328) (hlen : L.length ≤ 140737488355328) :
    Calls Tryd.prog 6 #[v, .bool is, .agg #[.int .i64 i0, .int .i64 i1, .int .i64 i2, .int .i64 i3, .int .i64 i4, .int .i64 i5, .int .i64 i6, .int .i64 i7], .int .i64 may] w fun e w' => e = .returned (.bool true) ∧ Below w.heap.size w w' := by
  obtain ⟨al, cl, rfl, hcl, hcells⟩ := hL
  have HL : Hid (ArgS w (.slice al L.length cl) L) := Lib.hid ⟨al, cl, rfl, hcl, hcells⟩
  have HZ := Lib.hid hz
  have HLEN := Lib.hid hlen
  clear hcells hz hcl hlen
  generalize ht : tellS L [] = t
  cases t with
  | inl n =>
    have HT := Lib.hid ht
    clear ht
    go_enter Tryd.func6, Tryd.ntmps6
    go_wp2_with fail
    refine (shown_any _).mono ?_
    rintro e w1 ⟨rfl, hb⟩
    have hb0 : Below w.heap.size w (w.alloc (.cells #[.int .i64 i0, .int .i64 i1, .int .i64 i2, .int .i64 i3, .int .i64 i4, .int .i64 i5, .int .i64 i6, .int .i64 i7] 36)) := (Below.refl _ _).alloc (Nat.le_refl _) _
    have HB1 := Lib.hid (hb0.trans (hb.mono (by simp)))
    clear hb hb0
    go_wp2_with fail
    refine (ck_lit HT.out (HL.out.below HB1.out) HZ.out (inF_nil _) (by simp)).mono ?_
    rintro e w2 ⟨rfl, hb⟩
    have HB := Lib.hid (HB1.out.trans (hb.mono HB1.out.size))
    clear hb
    go_wp2
    go_ret
    exact ⟨rfl, HB.out⟩
  | inr x =>
    obtain ⟨hx, hans⟩ := tells_answers L x ht
    have HX := Lib.hid hx
    have HANS := Lib.hid hans
    have HT := Lib.hid ht
    clear ht hx hans
    go_enter Tryd.func6, Tryd.ntmps6
    go_wp2_with fail
    refine (shown_any _).mono ?_
    rintro e w1 ⟨rfl, hb⟩
    have hb0 : Below w.heap.size w (w.alloc (.cells #[.int .i64 i0, .int .i64 i1, .int .i64 i2, .int .i64 i3, .int .i64 i4, .int .i64 i5, .int .i64 i6, .int .i64 i7] 36)) := (Below.refl _ _).alloc (Nat.le_refl _) _
    have HB1 := Lib.hid (hb0.trans (hb.mono (by simp)))
    have HC1 := Lib.hid hb
    clear hb hb0
    go_wp2_with fail
    refine (ck_ask HT.out (HL.out.below HB1.out) HZ.out (inF_nil _) (by simp)).mono ?_
    rintro e w2 ⟨rfl, hbb⟩
    have HB := Lib.hid (HB1.out.trans (hbb.mono HB1.out.size))
    obtain ⟨c0, c1, c2, c3, c4, c5, c6, c7⟩ := box_eight HC1.out hbb
    clear hbb HC1
    go_wp2_with fail
    obtain ⟨n, hn, hn2⟩ := HANS.out ⟨x, is, i0, i1, i2, i3, i4, i5, i6, i7, may⟩ rfl
    have HN := Lib.hid hn
    clear hn c0 c1 c2 c3 c4 c5 c6 c7
    have hb1 := (Below.refl w2.heap.size w2).alloc (Nat.le_refl _) (.cells (factC ⟨x, is, i0, i1, i2, i3, i4, i5, i6, i7, may⟩) 38)
    refine (ck_lit HN.out (HL.out.below (HB.out.trans (hb1.mono HB.out.size))) HZ.out (inF_one w2 ⟨x, is, i0, i1, i2, i3, i4, i5, i6, i7, may⟩) (by simp)).mono ?_
    rintro e w3 ⟨rfl, hb⟩
    have HB3 := Lib.hid (HB.out.trans ((hb1.trans (hb.mono (by simp))).mono HB.out.size))
    clear hb hb1
    have hni : ((n : Int) < 2) := by omega
    clear hn2
    go_wp2
    go_loopw [16, 17] (fun v16 v17 wr => ∃ (k : Nat) (b : Bool), k ≤ L.length ∧ v17 = .int .i64 k ∧ v16 = .bool b ∧ Hid (Below w3.heap.size w3 wr) ∧ Hid (b = false → ∀ j (h : j < L.length), j < k → L[j] ≠ x)) (fun v16 v17 _ => L.length - (intOf v17).toNat)
    case atStart => exact ⟨0, false, by omega, rfl, rfl, Lib.hid (Below.refl _ _), Lib.hid (fun _ j h hj => by omega)⟩
    case round =>
      obtain ⟨k, b, hk, rfl, rfl, HH, HNE⟩ := hrel
      by_cases hlt : k < L.length
      · have hlt' : ((k : Int) < L.length) := by omega
        obtain ⟨bb, off, cap, hv, hsl⟩ := (HL.out.below (HB3.out.trans (HH.out.mono HB3.out.size))).sl (by omega)
        obtain ⟨rfl, rfl⟩ : al = some ⟨bb, off, none⟩ ∧ cl = cap := by
          simp at hv
          exact hv
        have hc := hsl.cell k hlt
        have HLT := Lib.hid (And.intro hk hlt)
        clear hsl hv hk
        generalize hs : L[k] = s at hc
        have HS := Lib.hid hs
        clear hs
        have hlen := HLEN.out
        have HNE2 : Hid (b = false → (s.toList == x.toList) = false → ∀ j (h : j < L.length), j < k + 1 → L[j] ≠ x) := Lib.hid (fun h1 h2 j hj hjk => by
          by_cases hjk' : j < k
          · exact HNE.out h1 j hj hjk'
          · obtain rfl : j = k := by omega
            rw [HS.out]
            rintro rfl
            simp at h2)
        clear HNE
        cases b with
        | true =>
          clear HNE2
          go_wp2
          go_roundw
          case rel => exact ⟨k + 1, true, by omega, by go_num, rfl, HH, Lib.hid (fun h => by cases h)⟩
          case measure => simp [intOf]; omega
        | false =>
          go_wp2
          go_roundw
          case rel => exact ⟨k + 1, (s.toList == x.toList), by omega, by go_num, rfl, HH, Lib.hid (HNE2.out rfl)⟩
          case measure => simp [intOf]; omega
      · have hlt' : ¬ ((k : Int) < L.length) := by omega
        have hb : b = true := by
          cases b with
          | true => rfl
          | false =>
            obtain ⟨j, hj, hjx⟩ := List.getElem_of_mem HX.out
            exact absurd hjx (HNE.out rfl j hj (by omega))
        subst hb
        have HD := Lib.hid (HB3.out.trans (HH.out.mono HB3.out.size))
        go_wp2
        go_ret
        exact ⟨rfl, HD.out⟩
end Go.Proofs.YthomdgejbkcljaaDoor
