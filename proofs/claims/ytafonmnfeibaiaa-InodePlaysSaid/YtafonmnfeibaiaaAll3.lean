/- Part 4 of the proof: contracts of functions that the statement reaches, and plain lemmas. -/
import Derived.Test.YtafonmnfeibaiaaAll2
import Derived.Test.YtafonmnfeibaiaaAll1
import Derived.Laws.ResultCell
import Derived.BigQuiet
import Derived.Deep.QuietTactic
import Derived.Laws.AppendOwn
import Derived.Maps.AppendAt
import Derived.Deep.RegionHeld3
import Derived.IntWalk
import Derived.Deep.Cut
set_option linter.unusedSimpArgs false
set_option linter.unusedVariables false
namespace Go.Proofs.Ytafonmnfeibaiaa.Pp
open Go.RowKit Go.Shelf
attribute [local go_sem] Oper.semAt_some

def kept (xs : List ByteArray) : List ByteArray := xs.filter fun x => decide (¬ x.data.toList = [46])
def lastOf (xs : List ByteArray) : ByteArray := (xs.getLast?).getD ⟨#[]⟩
theorem kept_yes (xs : List ByteArray) (x : ByteArray) (h : ¬ x.data.toList = [46]) : kept (xs ++ [x]) = kept xs ++ [x] := by simp [kept, List.filter_append, h]
theorem kept_no (xs : List ByteArray) (x : ByteArray) (h : x.data.toList = [46]) : kept (xs ++ [x]) = kept xs := by simp [kept, List.filter_append, h]
theorem kept_len (xs : List ByteArray) : (kept xs).length ≤ xs.length := List.length_filter_le _ _
theorem last_app (xs : List ByteArray) (x : ByteArray) : lastOf (xs ++ [x]) = x := by simp [lastOf]

theorem own_same {W W' : World} {base n : Nat} {v : Value} {xs : List Value} (h : W.ownsRow base 9 1 v n xs) (hs : ∀ g o, base ≤ g → W.heap[g]? = some o → W'.heap[g]? = some o) : W'.ownsRow base 9 1 v n xs := by
  obtain ⟨h1, ⟨h2, h3⟩ | ⟨g, cap, cur, h2, hb, hh, rest⟩⟩ := h
  · exact ⟨h1, .inl ⟨h2, h3⟩⟩
  · exact ⟨h1, .inr ⟨g, cap, cur, h2, hb, hs g _ hb hh, rest⟩⟩

/-- What Split holds between two rounds, behind the names xs. -/
structure SI (w0 : World) (abs dir : Bool) (lp : Obj) (xs : List ByteArray) (W : World) : Prop where
  below : Below w0.heap.size w0 W
  res : W.heap[w0.heap.size]? = some (.cells #[.bool false, .slice none 0 0, .bool false] 115 (0, 0))
  err : W.heap[w0.heap.size + 1]? = some (.cells #[.int .i64 0] 30 (0, 0))
  p : ∃ v, W.heap[w0.heap.size + 2]? = some (.cells #[.bool abs, v, .bool dir] 115 (0, 0)) ∧ W.ownsRow (w0.heap.size + 7) 9 1 v (kept xs).length ((kept xs).map .string)
  last : W.heap[w0.heap.size + 3]? = some (.cells #[.string (lastOf xs)] 9 (0, 0))
  dfr : W.heap[w0.heap.size + 5]? = some (.deferred (some []))
  loop : W.heap[w0.heap.size + 6]? = some lp
  size : w0.heap.size + 7 ≤ W.heap.size

theorem SI.turn {w0 W W' : World} {abs dir : Bool} {lp : Obj} {xs : List ByteArray} (h : SI w0 abs dir lp xs W) (hs : ∀ g o, g ≠ w0.heap.size + 4 → W.heap[g]? = some o → W'.heap[g]? = some o) (hb : Below w0.heap.size W W') : SI w0 abs dir lp xs W' where
  below := h.below.trans hb
  res := hs _ _ (by omega) h.res
  err := hs _ _ (by omega) h.err
  p := by obtain ⟨v, h1, h2⟩ := h.p; exact ⟨v, hs _ _ (by omega) h1, own_same h2 (fun g o hg => hs g o (by omega))⟩
  last := hs _ _ (by omega) h.last
  dfr := hs _ _ (by omega) h.dfr
  loop := hs _ _ (by omega) h.loop
  size := Nat.le_trans h.size hb.size
theorem SI.setOwn {w0 W : World} {abs dir : Bool} {lp : Obj} {xs : List ByteArray} (h : SI w0 abs dir lp xs W) (v : Value) : SI w0 abs dir lp xs (W.setCell ⟨w0.heap.size + 4, 0, none⟩ v) :=
  h.turn (fun g o hg ho => by rw [Below.heap_setCell _ _ _ _ hg]; exact ho) ((Below.refl _ _).setCell (by simp) _)
theorem SI.drewN {w0 W : World} {abs dir : Bool} {lp : Obj} {xs : List ByteArray} (h : SI w0 abs dir lp xs W) (q : Nat) : SI w0 abs dir lp xs (W.drewN q) :=
  h.turn (fun _ _ _ ho => ho) ⟨rfl, rfl, rfl, Nat.le_refl _, fun _ _ => rfl⟩
theorem SI.alloc {w0 W : World} {abs dir : Bool} {lp : Obj} {xs : List ByteArray} (h : SI w0 abs dir lp xs W) (o : Obj) : SI w0 abs dir lp xs (W.alloc o) :=
  h.turn (fun g o' _ ho => by rw [Below.heap_alloc _ _ _ (Array.getElem?_eq_some_iff.1 ho).1]; exact ho) ((Below.refl _ _).alloc (by have := h.size; omega) _)
theorem SI.put {w0 W : World} {abs dir : Bool} {lp : Obj} {xs : List ByteArray} (h : SI w0 abs dir lp xs W) (lp' : Obj) : SI w0 abs dir lp' xs (W.putObj (w0.heap.size + 6) lp') where
  below := h.below.trans ⟨rfl, rfl, rfl, by simp, fun k hk => World.putObj_heap_other (by omega)⟩
  res := (World.putObj_heap_other (by omega)).trans h.res
  err := (World.putObj_heap_other (by omega)).trans h.err
  p := by
    obtain ⟨v, h1, h2⟩ := h.p
    exact ⟨v, (World.putObj_heap_other (by omega)).trans h1, own_same h2 (fun g o hg ho => (World.putObj_heap_other (by omega)).trans ho)⟩
  last := (World.putObj_heap_other (by omega)).trans h.last
  dfr := (World.putObj_heap_other (by omega)).trans h.dfr
  loop := World.putObj_heap_same (by have := h.size; omega)
  size := by rw [World.putObj_size]; exact h.size

theorem heap_cell {w : World} {b : Nat} {C : Array Value} {T : TypeId} {f : Nat × Nat} (h : w.heap[b]? = some (.cells C T f)) (i : Nat) : w.cell? ⟨b, i, none⟩ = C[i]? := by simp [World.cell?, h]
theorem heap_free {w : World} {b : Nat} {C : Array Value} {T : TypeId} (h : w.heap[b]? = some (.cells C T (0, 0))) (i : Nat) : w.frozen? ⟨b, i, none⟩ = false := by simp [World.frozen?, h]

set_option maxHeartbeats 400000 in
theorem mk_names (s : ByteArray) (w : World) :
    Calls Try.prog 93 #[.string s] w fun e w' => e = .returned (.func (.func 103) #[] #[.pointer (some ⟨w.heap.size, 0, none⟩)]) ∧ w' = w.alloc (.cells #[.string s] 9) := by
  go_enter Try.func93, Try.ntmps93
  go_wp2
  go_ret
  exact ⟨rfl, rfl⟩

def splitPost (s : ByteArray) (w : World) (e : Ending) (w' : World) : Prop :=
  ∃ (abs dir : Bool) (v : Value) (l : List ByteArray) (err : Int), e = .returned (.tuple #[.agg #[.bool abs, v, .bool dir], .int .i64 err]) ∧ w'.ownsRow w.heap.size 9 1 v l.length (l.map .string) ∧ Below w.heap.size w w' ∧
    splitS s.data.toList = (abs, dir, l.map (fun x : ByteArray => x.data.toList), err)

/-- A range over the names: what is asked is the one call of the iterator. -/
theorem range_names {g : Operand} {ps : Array Tmp} {assign body : Code} {Q : Exit → Act → World → Prop} {a : Act} (W : World) (ptr : Value) (hg : a.eval g = .func (.func 103) #[] #[ptr])
    (hcall : ∀ fn : FuncId, CallsIn Fence.wide 2 Try.prog 103 #[.func (.yield (W.heap.size + 1)) #[] #[], ptr]
      ((W.alloc (.deferred (some []))).alloc (.loop { state := .ready, pending := none, fn, tmps := a.tmps, params := ps, assign, body, defers := W.heap.size }))
      (rangePost Fence.wide 3 Try.prog (W.heap.size + 1) Q { a with defers := [{ target := .collected W.heap.size, args := #[] }] ++ a.defers })) :
    (Code.rangeFunc g ps assign body).wpIn Fence.wide 3 Try.prog Q a W := by
  refine wpIn_rangeFunc (fun fn _ => ?_)
  obtain ⟨W1, hW1⟩ : ∃ W1, (W.alloc (.deferred (some []))).alloc (.loop { state := .ready, pending := none, fn, tmps := a.tmps, params := ps, assign, body, defers := W.heap.size }) = W1 := ⟨_, rfl⟩
  have hc := hcall fn
  rw [hW1] at hc
  refine ⟨W.heap.size + 1, [{ target := .collected W.heap.size, args := #[] }], W1, { target := .fn (.func 103) #[ptr], args := #[.func (.yield (W.heap.size + 1)) #[] #[]] }, W1, 103, #[.func (.yield (W.heap.size + 1)) #[] #[], ptr], W1, ?_, ?_, fun _ _ => trivial, ?_, fun h => (by cases h), hc⟩
  · rw [← hW1]; exact run_enterLoop_outer _ _ _ _ _
  · simp only [resolve, hg]
    simp [go_sem]
  · have he := enters_of (P := Try.prog) Try.func103 (by kernel_rfl) rfl
    simp [invoke, go_sem, he]

theorem below_put {n : Nat} {w W : World} {l : Nat} {o : Obj} (h : Below n w W) (hl : n ≤ l) : Below n w (W.putObj l o) :=
  h.trans ⟨rfl, rfl, rfl, by simp, fun k hk => World.putObj_heap_other (by omega)⟩
theorem push7 (h : Array Obj) (a b c d e f g : Obj) :
    let H := ((((((h.push a).push b).push c).push d).push e).push f).push g
    H[h.size]? = some a ∧ H[h.size + 1]? = some b ∧ H[h.size + 2]? = some c ∧ H[h.size + 3]? = some d ∧ H[h.size + 4]? = some e ∧ H[h.size + 5]? = some f ∧ H[h.size + 6]? = some g := by
  simp only [Array.getElem?_push, Array.size_push]
  refine ⟨?_, ?_, ?_, ?_, ?_, ?_, ?_⟩ <;> repeat (first | rw [if_pos trivial] | rw [if_neg (by omega)] | rw [if_pos (by omega)])

/-- Split has met a name that is too long. -/
def Stop (w0 : World) (s : ByteArray) (r : Loop) (W : World) : Prop :=
  Below w0.heap.size w0 W ∧ W.heap[w0.heap.size]? = some (.cells #[.bool false, .slice none 0 0, .bool false] 115 (0, 0)) ∧ W.heap[w0.heap.size + 1]? = some (.cells #[.int .i64 10] 30 (0, 0)) ∧
  W.heap[w0.heap.size + 5]? = some (.deferred (some [])) ∧ W.heap[w0.heap.size + 6]? = some (.loop { r with state := .done, pending := some .ret }) ∧ (∃ x ∈ parts s.data.toList, 14 < x.length)
def Short (xs : List ByteArray) : Prop := ∀ x ∈ xs, x.size ≤ 14
def roundR (w0 : World) (s : ByteArray) (abs dir : Bool) (r : Loop) (pre : List ByteArray) (x : ByteArray) (W : World) (e : Ending) (W' : World) : Prop :=
  (e = .returned (.bool true) ∧ (SI w0 abs dir (.loop r) (pre ++ [x]) W' ∧ Short (pre ++ [x])) ∧ W'.heap[w0.heap.size + 4]? = W.heap[w0.heap.size + 4]?) ∨ (e = .returned (.bool false) ∧ Stop w0 s r W')

theorem iter_calls (w0 : World) (s : ByteArray) (hs : s.size ≤ 128) (abs dir : Bool) (r : Loop) (hp : r.params.size = 1) (W : World) (h : SI w0 abs dir (.loop r) [] ((W.alloc (.deferred (some []))).alloc (.loop r)))
    (hc : ((W.alloc (.deferred (some []))).alloc (.loop r)).heap[w0.heap.size + 4]? = some (.cells #[.string s] 9 (0, 0)))
    (hR : ∀ pre x W, SI w0 abs dir (.loop r) pre W → Short pre → x.data.toList ∈ parts s.data.toList → x.size ≤ 128 → pre.length < 128 →
      RoundIn Fence.wide 1 Try.prog (w0.heap.size + 6) r.fn ((r.params.zip #[.string x]).foldl (fun t (p, v) => t.setIfInBounds p v) r.tmps) r.assign r.body W (roundR w0 s abs dir r pre x W)) :
    CallsIn Fence.wide 2 Try.prog 103 #[.func (.yield (w0.heap.size + 6)) #[] #[], .pointer (some ⟨w0.heap.size + 4, 0, none⟩)] ((W.alloc (.deferred (some []))).alloc (.loop r)) fun e W' => (∃ v, e = .returned v) ∧
      ((∃ xs, xs.map (fun x : ByteArray => x.data.toList) = parts s.data.toList ∧ SI w0 abs dir (.loop r) xs W' ∧ Short xs) ∨ Stop w0 s r W') := by
  refine names_in 2 (w0.heap.size + 6) (w0.heap.size + 4) s (fun xs W => SI w0 abs dir (.loop r) xs W ∧ Short xs) (Stop w0 s r) (by omega) ?_ (fun pre W v hh => ⟨hh.1.setOwn v, hh.2⟩) (fun pre W q hh => ⟨hh.1.drewN q, hh.2⟩) _ (heap_cell hc 0) (heap_free hc 0) ⟨h, fun x hx => by cases hx⟩
  intro pre x W hh hx hsz hlen
  exact ⟨r.fn, _, r.assign, r.body, run_yield hh.1.loop (by rw [hp]; rfl), hR pre x W hh.1 hh.2 hx (by omega) (by omega)⟩

theorem short_app {pre : List ByteArray} {x : ByteArray} (h : Short pre) (hx : ¬ 14 < x.size) : Short (pre ++ [x]) := fun y hy => by
  rcases List.mem_append.1 hy with h1 | h1
  · exact h y h1
  · have : y = x := by simpa using h1
    rw [this]; omega
theorem begin_round {w0 W : World} {abs dir : Bool} {r : Loop} {pre : List ByteArray} (h : SI w0 abs dir (.loop r) pre W) (hr : r.state = .ready) {K : World → Prop}
    (hK : ∀ W3, SI w0 abs dir (.loop { r with state := .busy }) pre W3 → W3.heap[w0.heap.size + 4]? = W.heap[w0.heap.size + 4]? → K W3) : ∃ w₂, (Instr.beginRound (w0.heap.size + 6)).run Try.prog W = .ok () w₂ ∧ K w₂ :=
  ⟨_, run_beginRound h.loop hr, hK _ (h.put _) (World.putObj_heap_other (by omega))⟩
theorem set_same {w : World} {b i : Nat} {C : Array Value} {T : TypeId} {f : Nat × Nat} (h : w.heap[b]? = some (.cells C T f)) (v : Value) : (w.setCell ⟨b, i, none⟩ v).heap[b]? = some (.cells (C.setIfInBounds i v) T f) := by
  simp [World.setCell, Array.getElem?_modify, h]
theorem set_other {w : World} {b c i : Nat} {o : Obj} (h : w.heap[c]? = some o) (v : Value) (hne : c ≠ b) : (w.setCell ⟨b, i, none⟩ v).heap[c]? = some o := by
  rw [Below.heap_setCell _ _ _ _ hne]; exact h
/-- The round in which a name is too long. -/
theorem SI.stopped {w0 W2 W : World} {s : ByteArray} {abs dir : Bool} {r : Loop} {pre : List ByteArray} {x : ByteArray} (h : SI w0 abs dir (.loop { r with state := .busy }) pre W) (hx : x.data.toList ∈ parts s.data.toList) (hl : 14 < x.size) :
    ∃ v w', (Instr.endRound (w0.heap.size + 6) (some .ret)).run Try.prog ((((W.setCell ⟨w0.heap.size, 0, none⟩ (.bool false)).setCell ⟨w0.heap.size, 1, none⟩ (.slice none 0 0)).setCell ⟨w0.heap.size, 2, none⟩ (.bool false)).setCell ⟨w0.heap.size + 1, 0, none⟩ (.int .i64 10)) = .ok v w' ∧ roundR w0 s abs dir r pre x W2 (.returned v) w' := by
  obtain ⟨W5, hW5⟩ : ∃ W5, ((((W.setCell ⟨w0.heap.size, 0, none⟩ (.bool false)).setCell ⟨w0.heap.size, 1, none⟩ (.slice none 0 0)).setCell ⟨w0.heap.size, 2, none⟩ (.bool false)).setCell ⟨w0.heap.size + 1, 0, none⟩ (.int .i64 10)) = W5 := ⟨_, rfl⟩
  have b5 : Below w0.heap.size W W5 := by rw [← hW5]; exact ((((Below.refl _ _).setCell (by simp) _).setCell (by simp) _).setCell (by simp) _).setCell (by simp) _
  have r5 : W5.heap[w0.heap.size]? = some (.cells #[.bool false, .slice none 0 0, .bool false] 115 (0, 0)) := by
    rw [← hW5]; exact set_other (set_same (set_same (set_same h.res _) _) _) _ (by omega)
  have e5 : W5.heap[w0.heap.size + 1]? = some (.cells #[.int .i64 10] 30 (0, 0)) := by
    rw [← hW5]; exact set_same (set_other (set_other (set_other h.err _ (by omega)) _ (by omega)) _ (by omega)) _
  have d5 : W5.heap[w0.heap.size + 5]? = some (.deferred (some [])) := by
    rw [← hW5]; exact set_other (set_other (set_other (set_other h.dfr _ (by omega)) _ (by omega)) _ (by omega)) _ (by omega)
  have l5 : W5.heap[w0.heap.size + 6]? = some (.loop { r with state := .busy }) := by
    rw [← hW5]; exact set_other (set_other (set_other (set_other h.loop _ (by omega)) _ (by omega)) _ (by omega)) _ (by omega)
  rw [hW5]
  refine ⟨_, _, run_endRound (some .ret) l5, .inr ⟨rfl, h.below.trans (b5.trans ⟨rfl, rfl, rfl, by simp, fun k hk => World.putObj_heap_other (by omega)⟩), (World.putObj_heap_other (by omega)).trans r5, (World.putObj_heap_other (by omega)).trans e5, (World.putObj_heap_other (by omega)).trans d5, ?_, x.data.toList, hx, by rw [sz]; exact hl⟩⟩
  exact World.putObj_heap_same (by obtain ⟨h1, _⟩ := Array.getElem?_eq_some_iff.1 l5; exact h1)
/-- A round that goes on. -/
theorem SI.goes {w0 W2 W : World} {s : ByteArray} {abs dir : Bool} {r : Loop} {pre : List ByteArray} {x : ByteArray} (h : SI w0 abs dir (.loop { r with state := .busy }) (pre ++ [x]) W) (hr : r.state = .ready) (hp : r.pending = none) (hsh : Short (pre ++ [x])) (hb : W.heap[w0.heap.size + 4]? = W2.heap[w0.heap.size + 4]?) :
    ∃ v w', (Instr.endRound (w0.heap.size + 6) none).run Try.prog W = .ok v w' ∧ roundR w0 s abs dir r pre x W2 (.returned v) w' := by
  refine ⟨_, _, run_endRound none h.loop, .inl ⟨rfl, ⟨?_, hsh⟩, (World.putObj_heap_other (by omega)).trans hb⟩⟩
  have := h.put (.loop r)
  obtain ⟨st, pe, f1, f2, f3, f4, f5, f6⟩ := r
  simp only at hr hp
  subst hr hp
  exact this

theorem SI.lastSet {w0 W : World} {abs dir : Bool} {lp : Obj} {pre : List ByteArray} {x : ByteArray} (h : SI w0 abs dir lp pre W) (hk : kept (pre ++ [x]) = kept pre) : SI w0 abs dir lp (pre ++ [x]) (W.setCell ⟨w0.heap.size + 3, 0, none⟩ (.string x)) where
  below := h.below.setCell (by simp) _
  res := set_other h.res _ (by omega)
  err := set_other h.err _ (by omega)
  p := by
    obtain ⟨v, h1, h2⟩ := h.p
    rw [hk]
    exact ⟨v, set_other h1 _ (by omega), own_same h2 (fun g o hg ho => set_other ho _ (by omega))⟩
  last := by rw [last_app]; exact set_same h.last _
  dfr := set_other h.dfr _ (by omega)
  loop := set_other h.loop _ (by omega)
  size := by simpa [World.setCell] using h.size
theorem SI.own2 {w0 W : World} {v : Value} {k : Nat} {xs : List Value} (h2 : W.ownsRow (w0.heap.size + 7) 9 1 v k xs) (x : ByteArray) : (W.setCell ⟨w0.heap.size + 3, 0, none⟩ (.string x)).ownsRow (w0.heap.size + 7) 9 1 v k xs :=
  own_same h2 (fun g o hg ho => set_other ho _ (by omega))
theorem cell_one_set (W : World) (a : Addr) (u x : Value) : ∀ j y, [x][j]? = some y → ((W.setCell a u).alloc (.cells #[x] 9)).cell? ((⟨W.heap.size, 0, none⟩ : Addr).add j) = some y := by
  intro j y hj
  have h := cell_one_new (W.setCell a u) x 9 j y hj
  have e : (W.setCell a u).heap.size = W.heap.size := by simp [World.setCell]
  rw [e] at h; exact h
theorem SI.appended {w0 W w1 : World} {abs dir : Bool} {lp : Obj} {pre : List ByteArray} {x : ByteArray} {v v' : Value} (h : SI w0 abs dir lp pre W) (hk : kept (pre ++ [x]) = kept pre ++ [x])
    (hp : W.heap[w0.heap.size + 2]? = some (.cells #[.bool abs, v, .bool dir] 115 (0, 0))) (hv : ∀ k, v.ownBlock = some k → w0.heap.size + 7 ≤ k)
    (hg : ((W.setCell ⟨w0.heap.size + 3, 0, none⟩ (.string x)).alloc (.cells #[.string x] 9)).grownBy w1 v.ownBlock)
    (ho : w1.ownsRow (w0.heap.size + 7) 9 1 v' ((kept pre).length + 1) ((kept pre).map .string ++ [.string x])) :
    SI w0 abs dir lp (pre ++ [x]) (w1.setCell ⟨w0.heap.size + 2, 1, none⟩ v') ∧ (w1.setCell ⟨w0.heap.size + 2, 1, none⟩ v').heap[w0.heap.size + 4]? = W.heap[w0.heap.size + 4]? := by
  have hz := h.size
  have hsz : ((W.setCell ⟨w0.heap.size + 3, 0, none⟩ (.string x)).alloc (.cells #[.string x] 9)).heap.size = W.heap.size + 1 := by simp [World.setCell]
  have e3 : (W.setCell ⟨w0.heap.size + 3, 0, none⟩ (.string x)).heap.size = W.heap.size := by simp [World.setCell]
  have old : ∀ k, k < w0.heap.size + 7 → w1.heap[k]? = (W.setCell ⟨w0.heap.size + 3, 0, none⟩ (.string x)).heap[k]? := fun k hk => by
    rw [hg.block k (by rw [hsz]; omega) (fun e => by have := hv k e.symm; omega), Below.heap_alloc _ _ _ (by rw [e3]; omega)]
  have keep : ∀ k o, k < w0.heap.size + 7 → k ≠ w0.heap.size + 3 → W.heap[k]? = some o → w1.heap[k]? = some o := fun k o hk h3 ho => by
    rw [old k hk]; exact set_other ho _ h3
  have hb1 : Below w0.heap.size W w1 := ⟨hg.os, hg.tape, hg.output, by have := hg.size; rw [hsz] at this; omega, fun k hk => by rw [old k (by omega)]; exact Below.heap_setCell _ _ _ _ (by simp; omega)⟩
  refine ⟨⟨h.below.trans (hb1.setCell (by simp) _), set_other (keep _ _ (by omega) (by omega) h.res) _ (by omega), set_other (keep _ _ (by omega) (by omega) h.err) _ (by omega), ?_, ?_, set_other (keep _ _ (by omega) (by omega) h.dfr) _ (by omega), set_other (keep _ _ (by omega) (by omega) h.loop) _ (by omega), ?_⟩, ?_⟩
  · refine ⟨v', set_same (keep _ _ (by omega) (by omega) hp) _, ?_⟩
    rw [hk]
    have h9 : w1.ownsRow (w0.heap.size + 7) 9 1 v' (kept pre ++ [x]).length ((kept pre ++ [x]).map .string) := by simpa using ho
    exact own_same h9 (fun g o hg ho => set_other ho _ (by omega))
  · rw [last_app]
    refine set_other ?_ _ (by omega)
    rw [old _ (by omega)]; exact set_same h.last _
  · have := hg.size; rw [hsz] at this
    simp [World.setCell]; omega
  · rw [Below.heap_setCell _ _ _ _ (by simp), old _ (by omega)]
    exact Below.heap_setCell _ _ _ _ (by simp)

theorem p_kept {w0 W w1 : World} {abs dir : Bool} {v : Value} {x : ByteArray} (hp : W.heap[w0.heap.size + 2]? = some (.cells #[.bool abs, v, .bool dir] 115 (0, 0))) (hz : w0.heap.size + 7 ≤ W.heap.size) (hv : ∀ k, v.ownBlock = some k → w0.heap.size + 7 ≤ k)
    (hg : ((W.setCell ⟨w0.heap.size + 3, 0, none⟩ (.string x)).alloc (.cells #[.string x] 9)).grownBy w1 v.ownBlock) :
    w1.cell? ⟨w0.heap.size + 1 + 1, 1, none⟩ = some v ∧ w1.frozen? ⟨w0.heap.size + 1 + 1, 1, none⟩ = false := by
  have e3 : (W.setCell ⟨w0.heap.size + 3, 0, none⟩ (.string x)).heap.size = W.heap.size := by simp [World.setCell]
  have h1 : w1.heap[w0.heap.size + 2]? = some (.cells #[.bool abs, v, .bool dir] 115 (0, 0)) := by
    rw [hg.block _ (by simp [World.setCell]; omega) (fun e => by have := hv _ e.symm; omega), Below.heap_alloc _ _ _ (by rw [e3]; omega)]
    exact set_other hp _ (by omega)
  exact ⟨heap_cell h1 1, heap_free h1 1⟩

theorem end_loop {w0 W : World} {abs dir : Bool} {r : Loop} {xs : List ByteArray} (h : SI w0 abs dir (.loop r) xs W) (hr : r.state = .ready) (hp : r.pending = none) {K : Option Code → World → Prop}
    (hK : ∀ W4, SI w0 abs dir (.loop { r with state := .exhausted }) xs W4 → K none W4) : ∃ jump w₄, (Instr.endLoop (w0.heap.size + 6)).run Try.prog W = .ok jump w₄ ∧ K jump w₄ :=
  ⟨none, _, (run_endLoop h.loop (by rw [hr]; simp)).trans (by rw [hp]), hK _ (h.put _)⟩
theorem last_parts {xs : List ByteArray} {l : List Bytes} (h : xs.map (fun x : ByteArray => x.data.toList) = l) : l.getLast?.getD [] = (lastOf xs).data.toList := by
  rw [← h, List.getLast?_map, lastOf]
  cases xs.getLast? <;> rfl
theorem kept_parts {xs : List ByteArray} {l : List Bytes} (h : xs.map (fun x : ByteArray => x.data.toList) = l) : l.filter (fun x => decide (¬ x = [46])) = (kept xs).map (fun x : ByteArray => x.data.toList) := by
  rw [← h, kept, List.filter_map]; rfl
theorem short_parts {xs : List ByteArray} {l : List Bytes} (h : xs.map (fun x : ByteArray => x.data.toList) = l) (hs : Short xs) : ¬ ∃ x ∈ l, 14 < x.length := by
  rintro ⟨x, hx, hl⟩
  rw [← h] at hx
  obtain ⟨y, hy, rfl⟩ := List.mem_map.1 hx
  have := hs y hy
  rw [sz] at hl; omega
theorem plain_okb (l : Bytes) : plainB l = l.all okb := rfl
theorem split_ok {s : ByteArray} (h0 : ¬ s.data.toList = []) (hs : s.size ≤ 128) {xs : List ByteArray} (h : xs.map (fun x : ByteArray => x.data.toList) = parts s.data.toList) (hsh : Short xs) (hp : plainB s.data.toList = true) :
    splitS s.data.toList = (Lib.hasPrefix s.data.toList [47], Lib.hasSuffix s.data.toList [47] || (((lastOf xs).data.toList == [46]) || ((lastOf xs).data.toList == [46, 46])), (kept xs).map (fun x : ByteArray => x.data.toList), 0) := by
  have e1 : ¬ (128 < s.data.toList.length ∨ ∃ x ∈ parts s.data.toList, 14 < x.length) := by
    rintro (h1 | h1)
    · rw [sz] at h1; omega
    · exact short_parts h hsh h1
  rw [splitS, if_neg h0, if_neg e1, if_neg (by rw [← plain_okb, hp]; simp), last_parts h, kept_parts h]
theorem split_bad {s : ByteArray} (h0 : ¬ s.data.toList = []) (hs : s.size ≤ 128) {xs : List ByteArray} (h : xs.map (fun x : ByteArray => x.data.toList) = parts s.data.toList) (hsh : Short xs) (hp : plainB s.data.toList = false) :
    splitS s.data.toList = (false, false, [], 1) := by
  have e1 : ¬ (128 < s.data.toList.length ∨ ∃ x ∈ parts s.data.toList, 14 < x.length) := by
    rintro (h1 | h1)
    · rw [sz] at h1; omega
    · exact short_parts h hsh h1
  rw [splitS, if_neg h0, if_neg e1, if_pos (by rw [← plain_okb, hp])]
theorem split_long {b : Bytes} (h0 : ¬ b = []) (h : 128 < b.length ∨ ∃ x ∈ parts b, 14 < x.length) : splitS b = (false, false, [], 10) := by
  rw [splitS, if_neg h0, if_pos h]

theorem leave12 {T : Array Value} {W5 : World} (n0 : Nat) {A D : Bool} {V : Value} {E : Int} (hT2 : T[2]? = some (.pointer (some ⟨n0, 0, none⟩))) (hT3 : T[3]? = some (.pointer (some ⟨n0 + 1, 0, none⟩)))
    (hres : W5.heap[n0]? = some (.cells #[.bool A, V, .bool D] 115 (0, 0))) (herr : W5.heap[n0 + 1]? = some (.cells #[.int .i64 E] 30 (0, 0))) (hdfr : W5.heap[n0 + 5]? = some (.deferred (some []))) {R : Ending → World → Prop}
    (hV : ∃ a n c, V = .slice a n c)
    (hR : R (.returned (.tuple #[.agg #[.bool A, V, .bool D], .int .i64 E])) (W5.putObj (n0 + 5) (.deferred none))) :
    bodyPostM Fence.wide 3 Try.prog Try.f74 R .ret { tmps := T, defers := [{ target := .collected (n0 + 5), args := #[] }] } W5 := by
  obtain ⟨a, n, c, rfl⟩ := hV
  refine ⟨by simp, .inl ⟨_, _, rfl, run_takeDeferred hdfr, ?_⟩⟩
  obtain ⟨W6, hW6⟩ : ∃ W6, W5.putObj (n0 + 5) (.deferred none) = W6 := ⟨_, rfl⟩
  have h0 : W6.heap[n0]? = some (.cells #[.bool A, .slice a n c, .bool D] 115 (0, 0)) := by rw [← hW6]; exact (World.putObj_heap_other (by omega)).trans hres
  have h1 : W6.heap[n0 + 1]? = some (.cells #[.int .i64 E] 30 (0, 0)) := by rw [← hW6]; exact (World.putObj_heap_other (by omega)).trans herr
  rw [hW6] at hR ⊢
  have c0 : W6.cell? ⟨n0, 0, none⟩ = some (.bool A) := heap_cell h0 0
  have c1 : W6.cell? ⟨n0, 1, none⟩ = some (.slice a n c) := heap_cell h0 1
  have c2 : W6.cell? ⟨n0, 2, none⟩ = some (.bool D) := heap_cell h0 2
  have c3 : W6.cell? ⟨n0 + 1, 0, none⟩ = some (.int .i64 E) := heap_cell h1 0
  exact ⟨_, by simp [results, Try.results74, go_sem, hT2, hT3, c0, c1, c2, c3], hR⟩

theorem own_base {w : World} {b b' n : Nat} {v : Value} {xs : List Value} (h : w.ownsRow b 9 1 v n xs) (hb : b' ≤ b) : w.ownsRow b' 9 1 v n xs := by
  obtain ⟨h1, h2 | ⟨g, cap, cur, h2, h3, rest⟩⟩ := h
  · exact ⟨h1, .inl h2⟩
  · exact ⟨h1, .inr ⟨g, cap, cur, h2, by omega, rest⟩⟩
/-- The end of Split: the path is told. -/
theorem SI.final {w0 W : World} {s : ByteArray} {abs dir : Bool} {lp : Obj} {xs : List ByteArray} (h : SI w0 abs dir lp xs W) {V : Value} (hV : ∃ a n c, V = .slice a n c) (hown : W.ownsRow (w0.heap.size + 7) 9 1 V (kept xs).length ((kept xs).map .string)) {T : Array Value} (hT2 : T[2]? = some (.pointer (some ⟨w0.heap.size, 0, none⟩))) (hT3 : T[3]? = some (.pointer (some ⟨w0.heap.size + 1, 0, none⟩))) (D : Bool)
    (hs : splitS s.data.toList = (abs, D, (kept xs).map (fun x : ByteArray => x.data.toList), 0)) :
    bodyPostM Fence.wide 3 Try.prog Try.f74 (splitPost s w0) .ret { tmps := T, defers := [{ target := .collected (w0.heap.size + 5), args := #[] }] }
      (((((W.setCell ⟨w0.heap.size + 2, 2, none⟩ (.bool D)).setCell ⟨w0.heap.size, 0, none⟩ (.bool abs)).setCell ⟨w0.heap.size, 1, none⟩ V).setCell ⟨w0.heap.size, 2, none⟩ (.bool D)).setCell ⟨w0.heap.size + 1, 0, none⟩ (.int .i64 0)) := by
  obtain ⟨W5, hW5⟩ : ∃ W5, (((((W.setCell ⟨w0.heap.size + 2, 2, none⟩ (.bool D)).setCell ⟨w0.heap.size, 0, none⟩ (.bool abs)).setCell ⟨w0.heap.size, 1, none⟩ V).setCell ⟨w0.heap.size, 2, none⟩ (.bool D)).setCell ⟨w0.heap.size + 1, 0, none⟩ (.int .i64 0)) = W5 := ⟨_, rfl⟩
  have other : ∀ g o, g ≠ w0.heap.size → g ≠ w0.heap.size + 1 → g ≠ w0.heap.size + 2 → W.heap[g]? = some o → W5.heap[g]? = some o := fun g o n0 n1 n2 ho => by
    rw [← hW5]; exact set_other (set_other (set_other (set_other (set_other ho _ n2) _ n0) _ n0) _ n0) _ n1
  have b5 : Below w0.heap.size W W5 := by rw [← hW5]; exact (((((Below.refl _ _).setCell (by simp) _).setCell (by simp) _).setCell (by simp) _).setCell (by simp) _).setCell (by simp) _
  have r5 : W5.heap[w0.heap.size]? = some (.cells #[.bool abs, V, .bool D] 115 (0, 0)) := by
    rw [← hW5]; exact set_other (set_same (set_same (set_same (set_other h.res _ (by omega)) _) _) _) _ (by omega)
  have e5 : W5.heap[w0.heap.size + 1]? = some (.cells #[.int .i64 0] 30 (0, 0)) := by
    rw [← hW5]; exact set_same (set_other (set_other (set_other (set_other h.err _ (by omega)) _ (by omega)) _ (by omega)) _ (by omega)) _
  rw [hW5]
  refine leave12 w0.heap.size hT2 hT3 r5 e5 (other _ _ (by omega) (by omega) (by omega) h.dfr) hV ⟨abs, D, V, kept xs, 0, rfl, ?_, h.below.trans (b5.trans ⟨rfl, rfl, rfl, by simp, fun k hk => World.putObj_heap_other (by omega)⟩), hs⟩
  exact own_base (own_same hown (fun g o hg ho => (World.putObj_heap_other (by omega)).trans (other g o (by omega) (by omega) (by omega) ho))) (by omega)
/-- The end of Split: an error is told. -/
theorem SI.failed {w0 W : World} {s : ByteArray} {abs dir : Bool} {lp : Obj} {xs : List ByteArray} (h : SI w0 abs dir lp xs W) {T : Array Value} (hT2 : T[2]? = some (.pointer (some ⟨w0.heap.size, 0, none⟩))) (hT3 : T[3]? = some (.pointer (some ⟨w0.heap.size + 1, 0, none⟩)))
    (hs : splitS s.data.toList = (false, false, [], 1)) :
    bodyPostM Fence.wide 3 Try.prog Try.f74 (splitPost s w0) .ret { tmps := T, defers := [{ target := .collected (w0.heap.size + 5), args := #[] }] }
      ((((W.setCell ⟨w0.heap.size, 0, none⟩ (.bool false)).setCell ⟨w0.heap.size, 1, none⟩ (.slice none 0 0)).setCell ⟨w0.heap.size, 2, none⟩ (.bool false)).setCell ⟨w0.heap.size + 1, 0, none⟩ (.int .i64 1)) := by
  obtain ⟨W5, hW5⟩ : ∃ W5, ((((W.setCell ⟨w0.heap.size, 0, none⟩ (.bool false)).setCell ⟨w0.heap.size, 1, none⟩ (.slice none 0 0)).setCell ⟨w0.heap.size, 2, none⟩ (.bool false)).setCell ⟨w0.heap.size + 1, 0, none⟩ (.int .i64 1)) = W5 := ⟨_, rfl⟩
  have b5 : Below w0.heap.size W W5 := by rw [← hW5]; exact ((((Below.refl _ _).setCell (by simp) _).setCell (by simp) _).setCell (by simp) _).setCell (by simp) _
  have r5 : W5.heap[w0.heap.size]? = some (.cells #[.bool false, .slice none 0 0, .bool false] 115 (0, 0)) := by
    rw [← hW5]; exact set_other (set_same (set_same (set_same h.res _) _) _) _ (by omega)
  have e5 : W5.heap[w0.heap.size + 1]? = some (.cells #[.int .i64 1] 30 (0, 0)) := by
    rw [← hW5]; exact set_same (set_other (set_other (set_other h.err _ (by omega)) _ (by omega)) _ (by omega)) _
  have d5 : W5.heap[w0.heap.size + 5]? = some (.deferred (some [])) := by
    rw [← hW5]; exact set_other (set_other (set_other (set_other h.dfr _ (by omega)) _ (by omega)) _ (by omega)) _ (by omega)
  rw [hW5]
  exact leave12 w0.heap.size hT2 hT3 r5 e5 d5 ⟨none, 0, 0, rfl⟩ ⟨false, false, .slice none 0 0, [], 1, rfl, ⟨rfl, .inl ⟨rfl, rfl⟩⟩, h.below.trans (b5.trans ⟨rfl, rfl, rfl, by simp, fun k hk => World.putObj_heap_other (by omega)⟩), hs⟩

set_option maxRecDepth 100000 in
set_option maxHeartbeats 2000000 in
theorem split_main (s : ByteArray) (w : World) (h0 : ¬ s.data.toList = []) (hs : s.size ≤ 128) : Calls Try.prog 74 #[.string s] w (splitPost s w) := by
  refine (callsIn_wide (n := 3)).1 (callsIn_of_wp_marks Try.func74 rfl trivial ?_ rfl)
  simp only [Try.ntmps74, List.size_toArray, List.length_cons, List.length_nil, Nat.reduceAdd, Nat.reduceSub, Array.replicate_succ, Array.replicate_zero, List.push_toArray, List.append_toArray, List.nil_append, List.cons_append]
  have h1 : s.toList.isEmpty = false := by rw [toList_data]; cases hh : s.data.toList with | nil => exact absurd hh h0 | cons => rfl
  have hs1 : (s.size : Int) ≤ 128 := by omega
  have H0 := Lib.hid h0
  obtain ⟨i0, hi, hz0, hz1, hz2⟩ := info_parts info9
  clear h0
  gi_wp2_with fail
  refine ⟨trivial, ?_⟩
  refine (callsIn_wide.2 (Try.strings_HasPrefix _ _ _)).mono ?_
  rintro e w' ⟨rfl, rfl⟩
  gi_wp2_with fail
  refine ⟨trivial, ?_⟩
  refine (callsIn_wide.2 (Try.strings_HasSuffix _ _ _ (by omega))).mono ?_
  rintro e w' ⟨rfl, rfl⟩
  gi_wp2_with fail
  refine ⟨trivial, ?_⟩
  refine (callsIn_wide.2 (mk_names _ _)).mono ?_
  rintro e w' ⟨rfl, rfl⟩
  gi_wp2_with fail
  obtain ⟨W, hW⟩ : ∃ W, (((((w.alloc (.cells #[.bool false, .slice none 0 0, .bool false] 115)).alloc (.cells #[.int .i64 0] 30)).alloc (.cells #[.bool (Lib.hasPrefix s.data.toList [47]), .slice none 0 0, .bool (Lib.hasSuffix s.data.toList [47])] 115)).alloc (.cells #[.string ⟨#[]⟩] 9)).alloc (.cells #[.string s] 9)) = W := ⟨_, rfl⟩
  have hWs : W.heap.size = w.heap.size + 5 := by rw [← hW]; simp
  rw [hW]
  refine range_names W (.pointer (some ⟨w.heap.size + 4, 0, none⟩)) rfl (fun fn => ?_)
  rw [hWs]
  refine (iter_calls w s hs (Lib.hasPrefix s.data.toList [47]) (Lib.hasSuffix s.data.toList [47]) _ ?_ _ ?_ ?_ ?_).mono ?_
  rotate_left
  · rw [← hW]
    have h7 := push7 w.heap
    refine ⟨(((((((Below.refl _ _).alloc (Nat.le_refl _) _).alloc (by simp) _).alloc (by simp; omega) _).alloc (by simp; omega) _).alloc (by simp; omega) _).alloc (by simp; omega) _).alloc (by simp; omega) _, ?_, ?_, ⟨.slice none 0 0, ?_, ⟨rfl, .inl ⟨rfl, rfl⟩⟩⟩, ?_, ?_, ?_, by simp⟩
    · exact (h7 _ _ _ _ _ _ _).1
    · exact (h7 _ _ _ _ _ _ _).2.1
    · exact (h7 _ _ _ _ _ _ _).2.2.1
    · exact (h7 _ _ _ _ _ _ _).2.2.2.1
    · exact (h7 _ _ _ _ _ _ _).2.2.2.2.2.1
    · exact (h7 _ _ _ _ _ _ _).2.2.2.2.2.2
  · rw [← hW]
    exact (push7 w.heap _ _ _ _ _ _ _).2.2.2.2.1
  · intro pre x W2 hSI hsh hx hx1 hlen
    refine roundIn_of_wpIn trivial ?_
    dsimp only
    gi_wp2
    refine begin_round hSI rfl (fun W3 hS3 hb3 => ?_)
    obtain ⟨v, hpv, hown⟩ := hS3.p
    have r0 : W3.cell? ⟨w.heap.size, 0, none⟩ = some (.bool false) := heap_cell hS3.res 0
    have r1 : W3.cell? ⟨w.heap.size, 1, none⟩ = some (.slice none 0 0) := heap_cell hS3.res 1
    have r2 : W3.cell? ⟨w.heap.size, 2, none⟩ = some (.bool false) := heap_cell hS3.res 2
    have rf : ∀ i, W3.frozen? ⟨w.heap.size, i, none⟩ = false := heap_free hS3.res
    have e0 : W3.cell? ⟨w.heap.size + 1, 0, none⟩ = some (.int .i64 0) := heap_cell hS3.err 0
    have ef : W3.frozen? ⟨w.heap.size + 1, 0, none⟩ = false := heap_free hS3.err 0
    have p1 : W3.cell? ⟨w.heap.size + 1 + 1, 1, none⟩ = some v := heap_cell hpv 1
    have pf : W3.frozen? ⟨w.heap.size + 1 + 1, 1, none⟩ = false := heap_free hpv 1
    have l0 : W3.cell? ⟨w.heap.size + 1 + 1 + 1, 0, none⟩ = some (.string (lastOf pre)) := heap_cell hS3.last 0
    have lf : W3.frozen? ⟨w.heap.size + 1 + 1 + 1, 0, none⟩ = false := heap_free hS3.last 0
    have HS := Lib.hid hS3
    have HO := Lib.hid hown
    have HPV := Lib.hid hpv
    have HB3 := Lib.hid hb3
    have HX := Lib.hid hx
    have HSH := Lib.hid hsh
    clear hS3 hown hpv hb3 hx hSI hsh
    by_cases hl : 14 < x.size
    · have hl1 : (14 : Int) < x.size := by omega
      gi_wp2
      exact HS.out.stopped HX.out hl
    · have hl1 : ¬ (14 : Int) < x.size := by omega
      by_cases hd : x.data.toList = [46]
      · have hd1 : x.toList = [46] := by rw [toList_data]; exact hd
        have HD := Lib.hid hd
        clear hd
        gi_wp2
        exact (HS.out.lastSet (kept_no pre x HD.out)).goes rfl rfl (short_app HSH.out hl) ((Below.heap_setCell _ _ _ _ (by simp)).trans HB3.out)
      · have hd1 : (x.toList == [46]) = false := by rw [toList_data]; simpa using hd
        have HD := Lib.hid hd
        clear hd
        have hkl := kept_len pre
        have HO2 := Lib.hid (SI.own2 HO.out x)
        gi_wp2_with (gi_at_builtin; refine wpListIn_append_own _ rfl _ _ 22 rfl (w.heap.size + 7) 9 i0 (.string ByteArray.empty) 1 16 Try.underlying22 hi hz0 hz1 hz2 rfl (by decide) _ _ _ rfl (HO2.out.alloc _) ⟨W3.heap.size, 0, none⟩ 1 1 [.string x] rfl rfl (cell_one_set _ _ _ _) (by simp [Value.oneCell']) (by unfold maxLen; omega) (by omega) (by have := HS.out.size; simp; omega) ?_; intro v' w1 hown' hgrow _; obtain ⟨g', cap', rfl⟩ := ownsRow_succ hown'; have hq := p_kept HPV.out HS.out.size (own_ge HO.out) hgrow; have q1 := hq.1; have qf := hq.2; clear hq)
        obtain ⟨ha, hb⟩ := HS.out.appended (kept_yes pre x HD.out) HPV.out (own_ge HO.out) hgrow hown'
        exact ha.goes rfl rfl (short_app HSH.out hl) (hb.trans HB3.out)
  · rintro e W2 ⟨⟨v0, rfl⟩, (⟨xs, hxs, hSI, hsh⟩ | hstop)⟩
    · refine end_loop hSI rfl rfl (fun W4 hS4 => ?_)
      have HXS := Lib.hid hxs
      have HSH := Lib.hid hsh
      clear hxs hsh hSI W2 hW
      obtain ⟨v, hpv, hown⟩ := hS4.p
      obtain ⟨sa, sl, sc, rfl⟩ : ∃ a n c, v = .slice a n c := by
        obtain ⟨_, ⟨h2, _⟩ | ⟨g, cap, cur, h2, _⟩⟩ := hown
        · exact ⟨_, _, _, h2⟩
        · exact ⟨_, _, _, h2⟩
      have r0 : W4.cell? ⟨w.heap.size, 0, none⟩ = some (.bool false) := heap_cell hS4.res 0
      have r1 : W4.cell? ⟨w.heap.size, 1, none⟩ = some (.slice none 0 0) := heap_cell hS4.res 1
      have r2 : W4.cell? ⟨w.heap.size, 2, none⟩ = some (.bool false) := heap_cell hS4.res 2
      have rf : ∀ i, W4.frozen? ⟨w.heap.size, i, none⟩ = false := heap_free hS4.res
      have e0 : W4.cell? ⟨w.heap.size + 1, 0, none⟩ = some (.int .i64 0) := heap_cell hS4.err 0
      have ef : W4.frozen? ⟨w.heap.size + 1, 0, none⟩ = false := heap_free hS4.err 0
      have p0 : W4.cell? ⟨w.heap.size + 1 + 1, 0, none⟩ = some (.bool (Lib.hasPrefix s.data.toList [47])) := heap_cell hpv 0
      have p1 : W4.cell? ⟨w.heap.size + 1 + 1, 1, none⟩ = some (.slice sa sl sc) := heap_cell hpv 1
      have p2 : W4.cell? ⟨w.heap.size + 1 + 1, 2, none⟩ = some (.bool (Lib.hasSuffix s.data.toList [47])) := heap_cell hpv 2
      have pf : ∀ i, W4.frozen? ⟨w.heap.size + 1 + 1, i, none⟩ = false := heap_free hpv
      have l0 : W4.cell? ⟨w.heap.size + 1 + 1 + 1, 0, none⟩ = some (.string (lastOf xs)) := heap_cell hS4.last 0
      have HS := Lib.hid hS4
      have HO := Lib.hid hown
      have HPV := Lib.hid hpv
      clear hS4 hown hpv
      gi_wp2_with fail
      refine ⟨trivial, ?_⟩
      refine (callsIn_wide.2 (plain_any _ _ (by omega))).mono ?_
      rintro e w' ⟨rfl, rfl⟩
      by_cases hp : plainB s.data.toList = true
      · have HF := Lib.hid (split_ok H0.out hs HXS.out HSH.out hp)
        by_cases hd : Lib.hasSuffix s.data.toList [47] = true
        · have HF2 := Lib.hid (HF.out.trans (by rw [hd]; simp : _ = (Lib.hasPrefix s.data.toList [47], true, (kept xs).map (fun x : ByteArray => x.data.toList), (0 : Int))))
          gi_wp2
          exact HS.out.final ⟨_, _, _, rfl⟩ HO.out rfl rfl true HF2.out
        · replace hd : Lib.hasSuffix s.data.toList [47] = false := by simpa using hd
          by_cases hl1 : (lastOf xs).data.toList = [46]
          · have hm1 : (lastOf xs).toList = [46] := by rw [toList_data]; exact hl1
            have HF2 := Lib.hid (HF.out.trans (by rw [hd, hl1]; simp : _ = (Lib.hasPrefix s.data.toList [47], true, (kept xs).map (fun x : ByteArray => x.data.toList), (0 : Int))))
            clear hl1
            gi_wp2
            exact HS.out.final ⟨_, _, _, rfl⟩ HO.out rfl rfl true HF2.out
          · have hm1 : ((lastOf xs).toList == [46]) = false := by rw [toList_data]; simpa using hl1
            by_cases hl2 : (lastOf xs).data.toList = [46, 46]
            · have hm2 : (lastOf xs).toList = [46, 46] := by rw [toList_data]; exact hl2
              have HF2 := Lib.hid (HF.out.trans (by rw [hd, hl2]; simp : _ = (Lib.hasPrefix s.data.toList [47], true, (kept xs).map (fun x : ByteArray => x.data.toList), (0 : Int))))
              clear hl1 hl2
              gi_wp2
              exact HS.out.final ⟨_, _, _, rfl⟩ HO.out rfl rfl true HF2.out
            · have hm2 : ((lastOf xs).toList == [46, 46]) = false := by rw [toList_data]; simpa using hl2
              have HF2 := Lib.hid (HF.out.trans (by rw [hd]; simp [hl1, hl2] : _ = (Lib.hasPrefix s.data.toList [47], false, (kept xs).map (fun x : ByteArray => x.data.toList), (0 : Int))))
              clear hl1 hl2
              gi_wp2
              exact HS.out.final ⟨_, _, _, rfl⟩ HO.out rfl rfl false HF2.out
      · replace hp : plainB s.data.toList = false := by simpa using hp
        have HF := Lib.hid (split_bad H0.out hs HXS.out HSH.out hp)
        gi_wp2
        exact HS.out.failed rfl rfl HF.out
    · obtain ⟨q1, q2, q3, q4, q5, q6⟩ := hstop
      refine ⟨some .ret, _, run_endLoop q5 (by simp), ?_⟩
      have HF := Lib.hid (split_long H0.out (.inr q6))
      gi_wp2
      exact leave12 w.heap.size rfl rfl ((World.putObj_heap_other (by omega)).trans q2) ((World.putObj_heap_other (by omega)).trans q3) ((World.putObj_heap_other (by omega)).trans q4) ⟨none, 0, 0, rfl⟩ ⟨false, false, .slice none 0 0, [], 10, rfl, ⟨rfl, .inl ⟨rfl, rfl⟩⟩, below_put (below_put q1 (by omega)) (by omega), HF.out⟩
  · rfl
end Go.Proofs.Ytafonmnfeibaiaa.Pp
namespace Go.Proofs.Ytafonmnfeibaiaa.Pp
open Go.RowKit

set_option maxHeartbeats 400000 in
theorem split_any (s : ByteArray) (w : World) : Calls Try.prog 74 #[.string s] w (splitPost s w) := by
  by_cases h0 : s.data.toList = []
  · have h1 : s.toList = [] := by rw [toList_data]; exact h0
    have HF : Hid (splitS s.data.toList = (false, false, [], 3)) := Lib.hid (by rw [splitS, if_pos h0])
    clear h0
    go_enter Try.func74, Try.ntmps74
    go_wp2
    exact bodyPost_ret (v := .tuple #[.agg #[.bool false, .slice none 0 0, .bool false], .int .i64 3]) (by simp [results, Try.results74, go_sem]) rfl ⟨false, false, .slice none 0 0, [], 3, rfl, ⟨rfl, .inl ⟨rfl, rfl⟩⟩, ((Below.refl _ _).alloc (Nat.le_refl _) _).alloc (by simp) _, HF.out⟩
  · by_cases hb : s.size ≤ 128
    · exact split_main s w h0 hb
    · have h1 : s.toList.isEmpty = false := by rw [toList_data]; cases hh : s.data.toList with | nil => exact absurd hh h0 | cons => rfl
      have hb1 : (128 : Int) < s.size := by omega
      have HF : Hid (splitS s.data.toList = (false, false, [], 10)) := Lib.hid (split_long h0 (.inl (by rw [sz]; omega)))
      clear h0
      go_enter Try.func74, Try.ntmps74
      go_wp2
      exact bodyPost_ret (v := .tuple #[.agg #[.bool false, .slice none 0 0, .bool false], .int .i64 10]) (by simp [results, Try.results74, go_sem]) rfl ⟨false, false, .slice none 0 0, [], 10, rfl, ⟨rfl, .inl ⟨rfl, rfl⟩⟩, ((Below.refl _ _).alloc (Nat.le_refl _) _).alloc (by simp) _, HF.out⟩
end Go.Proofs.Ytafonmnfeibaiaa.Pp
namespace Go.Proofs.Ytafonmnfeibaiaa
open Go.RowKit

/-! ### walk: who asks -/
/-- Who asks. -/
structure Cr where
  real : Int
  eff : Int
  saved : Int
  group : Int
  eg : Int
def ask (t : Nat) (cwd : Int) (c : Cr) : Value := .agg #[.pointer (some ⟨t, 0, none⟩), .int .i64 cwd, .int .i64 c.real, .int .i64 c.eff, .int .i64 c.saved, .int .i64 c.group, .int .i64 c.eg]
def infoV (i k m o g l z y : Int) : Value := .agg #[.int .i64 i, .int .i64 k, .int .i64 m, .int .i64 o, .int .i64 g, .int .i64 l, .int .i64 z, .int .i64 y]
set_option maxHeartbeats 400000 in
theorem wmay_any (t : Nat) (cwd : Int) (c : Cr) (i k m o g l z y want : Int) (w : World) :
    Calls Try.prog 42 #[ask t cwd c, infoV i k m o g l z y, .int .i64 want] w fun e w' => e = .returned (.bool (Md.mayS m o g (decide (k = 1)) c.eff c.eg want)) ∧ Below w.heap.size w w' := by
  obtain ⟨real, eff, saved, group, eg⟩ := c
  unfold ask infoV
  go_enter Try.func42, Try.ntmps42
  go_wp2_with fail
  have e1 : (k == 1) = decide (k = 1) := rfl
  refine (Md.may_any _ _ _ _ _ _ _ _).mono ?_
  rintro e w' ⟨rfl, rfl⟩
  go_wp2
  go_ret
  exact ⟨rfl, ((Below.refl _ _).alloc (Nat.le_refl _) _).alloc (by rw [alloc_size]; omega) _⟩
end Go.Proofs.Ytafonmnfeibaiaa
/- walk, plain: what a path leads to. -/
namespace Go.Proofs.Ytafonmnfeibaiaa
open Go.RowKit

def mayN (m : IT.Nd) (c : Cr) (want : Int) : Bool := Md.mayS m.mode m.owner m.group (decide (m.kind = 1)) c.eff c.eg want
/-- May one go through an inode? -/
def entersE (m : IT.Nd) (c : Cr) : Int := if m.kind ≠ 1 then 6 else if mayN m c 1 = false then 4 else 0
/-- Down by some names: where, and the error. -/
def downT (T : IT.Tr) (c : Cr) : Nat → List IT.Bytes → Nat × Int
  | k, [] => (k, 0)
  | k, n :: l => match T k with
    | none => (0, 3)
    | some m => if entersE m c ≠ 0 then (0, entersE m c) else match lookT T k n with
      | none => (0, 3)
      | some j => downT T c j l
def startT (cwd : Int) (abs : Bool) : Nat := if abs then 1 else cwd.toNat
def goT (T : IT.Tr) (c : Cr) (cwd : Int) (abs : Bool) (l : List IT.Bytes) : Nat × Int := if T (startT cwd abs) = none then (0, 3) else downT T c (startT cwd abs) l
def kindT (T : IT.Tr) (k : Nat) : Int := match T k with
  | none => 0
  | some m => m.kind
def findT (T : IT.Tr) (c : Cr) (cwd : Int) (s : IT.Bytes) : Nat × Int :=
  if (Pp.splitS s).2.2.2 ≠ 0 then (0, (Pp.splitS s).2.2.2)
  else if (goT T c cwd (Pp.splitS s).1 (Pp.splitS s).2.2.1).2 ≠ 0 then (0, (goT T c cwd (Pp.splitS s).1 (Pp.splitS s).2.2.1).2)
  else if (Pp.splitS s).2.1 = true ∧ kindT T (goT T c cwd (Pp.splitS s).1 (Pp.splitS s).2.2.1).1 ≠ 1 then (0, 6)
  else ((goT T c cwd (Pp.splitS s).1 (Pp.splitS s).2.2.1).1, 0)
/-- Where an entry stands, or would. -/
structure Ent where
  dir : Nat
  name : IT.Bytes
  must : Bool
  to : Option Nat
def entryT (T : IT.Tr) (c : Cr) (cwd : Int) (s : IT.Bytes) : Except Int Ent :=
  if (Pp.splitS s).2.2.2 ≠ 0 then .error (Pp.splitS s).2.2.2
  else if (Pp.splitS s).2.2.1 = [] ∨ (Pp.splitS s).2.2.1.getLast? = some [46, 46] then .error 1
  else if (goT T c cwd (Pp.splitS s).1 (Pp.splitS s).2.2.1.dropLast).2 ≠ 0 then .error (goT T c cwd (Pp.splitS s).1 (Pp.splitS s).2.2.1.dropLast).2
  else match T (goT T c cwd (Pp.splitS s).1 (Pp.splitS s).2.2.1.dropLast).1 with
    | none => .error 3
    | some m => if entersE m c ≠ 0 then .error (entersE m c)
      else .ok ⟨(goT T c cwd (Pp.splitS s).1 (Pp.splitS s).2.2.1.dropLast).1, ((Pp.splitS s).2.2.1.getLast?).getD [], (Pp.splitS s).2.1, lookT T (goT T c cwd (Pp.splitS s).1 (Pp.splitS s).2.2.1.dropLast).1 (((Pp.splitS s).2.2.1.getLast?).getD [])⟩

/-! What is looked up is there. -/
theorem look_there {T : IT.Tr} (hs : IT.Sound okN T) {k j : Nat} {nm : IT.Bytes} (h : lookT T k nm = some j) : ∃ m, T j = some m := by
  unfold lookT at h
  cases hk : T k with
  | none => rw [hk] at h; cases h
  | some m =>
    rw [hk] at h
    dsimp only at h
    split at h
    · cases h
    · rename_i hkd
      split at h
      · obtain rfl := Option.some.inj h; exact ⟨m, hk⟩
      · split at h
        · obtain rfl := Option.some.inj h
          obtain ⟨rk, hrk⟩ := hs.1.chain
          by_cases hp : m.parent = k
          · exact ⟨m, by rw [hp]; exact hk⟩
          · obtain ⟨_, m2, hm2, _⟩ := hrk k m hk (Decidable.not_not.1 hkd) hp
            exact ⟨m2, hm2⟩
        · exact hs.1.lead k m (nm, j) hk (IT.find_mem h)
theorem down_there {T : IT.Tr} (hs : IT.Sound okN T) (c : Cr) : ∀ (l : List IT.Bytes) (k : Nat), (∃ m, T k = some m) → (downT T c k l).2 = 0 → ∃ m, T (downT T c k l).1 = some m
  | [], k, h, _ => h
  | n :: l, k, ⟨m, hm⟩, h => by
    unfold downT at h ⊢
    rw [hm] at h ⊢
    dsimp only at h ⊢
    split at h
    · rename_i he; exact absurd h he
    · rename_i he
      rw [if_neg he]
      cases hl : lookT T k n with
      | none => rw [hl] at h; cases h
      | some j =>
        rw [hl] at h
        exact down_there hs c l j (look_there hs hl) h
theorem go_there {T : IT.Tr} (hs : IT.Sound okN T) {c : Cr} {cwd : Int} {abs : Bool} {l : List IT.Bytes} (h : (goT T c cwd abs l).2 = 0) : ∃ m, T (goT T c cwd abs l).1 = some m := by
  unfold goT at h ⊢
  by_cases hk : T (startT cwd abs) = none
  · rw [if_pos hk] at h; cases h
  · rw [if_neg hk] at h ⊢
    refine down_there hs c l _ ?_ h
    cases hm : T (startT cwd abs) with
    | none => exact absurd hm hk
    | some m => exact ⟨m, rfl⟩
theorem find_there {T : IT.Tr} (hs : IT.Sound okN T) {c : Cr} {cwd : Int} {s : IT.Bytes} (h : (findT T c cwd s).2 = 0) : ∃ m, T (findT T c cwd s).1 = some m := by
  unfold findT at h ⊢
  split at h
  · rename_i he; exact absurd h he
  · split at h
    · rename_i he; exact absurd h he
    · rename_i h1 h2
      split at h
      · cases h
      · rename_i h3
        rw [if_neg h1, if_neg h2, if_neg h3]
        exact go_there hs (Decidable.not_not.1 h2)
end Go.Proofs.Ytafonmnfeibaiaa
namespace Go.Proofs.Ytafonmnfeibaiaa
open Go.RowKit

set_option maxHeartbeats 400000 in
theorem wenters_any (t : Nat) (cwd : Int) (c : Cr) (i k m o g l z y : Int) (w : World) :
    Calls Try.prog 76 #[ask t cwd c, infoV i k m o g l z y] w fun e w' => ∃ r : Int, e = .returned (.int .i64 r) ∧ r = (if k ≠ 1 then 6 else if Md.mayS m o g (decide (k = 1)) c.eff c.eg 1 = false then 4 else 0) ∧ Below w.heap.size w w' := by
  obtain ⟨real, eff, saved, group, eg⟩ := c
  by_cases hk : k = 1
  · subst hk
    rw [if_neg (fun hh => hh rfl)]
    have hm := wmay_any t cwd ⟨real, eff, saved, group, eg⟩ i 1 m o g l z y 1
    generalize hM : Md.mayS m o g (decide ((1 : Int) = 1)) eff eg 1 = M at *
    have HM : Hid (∀ w : World, Calls Try.prog 42 #[ask t cwd ⟨real, eff, saved, group, eg⟩, infoV i 1 m o g l z y, .int .i64 1] w fun e w' => e = .returned (.bool M) ∧ Below w.heap.size w w') := Lib.hid (fun w => hm w)
    clear hM hm
    cases M with
    | true =>
      unfold ask infoV
      go_enter Try.func76, Try.ntmps76
      go_wp2_with fail
      refine (HM.out _).mono ?_
      rintro e w' ⟨rfl, hb⟩
      have HB := Lib.hid hb
      clear hb
      go_wp2
      go_ret
      exact ⟨0, rfl, rfl, (((Below.refl _ _).alloc (Nat.le_refl _) _).alloc (by rw [alloc_size]; omega) _).trans (HB.out.mono (by rw [alloc_size, alloc_size]; omega))⟩
    | false =>
      unfold ask infoV
      go_enter Try.func76, Try.ntmps76
      go_wp2_with fail
      refine (HM.out _).mono ?_
      rintro e w' ⟨rfl, hb⟩
      have HB := Lib.hid hb
      clear hb
      go_wp2
      go_ret
      exact ⟨4, rfl, rfl, (((Below.refl _ _).alloc (Nat.le_refl _) _).alloc (by rw [alloc_size]; omega) _).trans (HB.out.mono (by rw [alloc_size, alloc_size]; omega))⟩
  · rw [if_pos hk]
    have hk1 : (k != 1) = true := by simpa using hk
    clear hk
    unfold ask infoV
    go_enter Try.func76, Try.ntmps76
    go_wp2
    go_ret
    exact ⟨6, rfl, rfl, ((Below.refl _ _).alloc (Nat.le_refl _) _).alloc (by rw [alloc_size]; omega) _⟩
theorem stat_infoV {T : IT.Tr} {k : Nat} {m : IT.Nd} (h : T k = some m) : statV T k = infoV k m.kind m.mode m.owner m.group (IT.lnk T k : Nat) (m.data.length + m.names.length : Nat) m.tty := by
  unfold statV; rw [h]; rfl

/-- A row of names that may be read. -/
def Row (w : World) (a : Option Addr) (l : List ByteArray) : Prop := ∀ j (h : j < l.length), ∃ b off, a = some ⟨b, off, none⟩ ∧ b < w.heap.size ∧ w.cell? ⟨b, off + j, none⟩ = some (.string l[j])
def askC (t : Nat) (cwd : Int) (c : Cr) : Array Value := #[.pointer (some ⟨t, 0, none⟩), .int .i64 cwd, .int .i64 c.real, .int .i64 c.eff, .int .i64 c.saved, .int .i64 c.group, .int .i64 c.eg]
def infC (T : IT.Tr) (k : Nat) (m : IT.Nd) : Array Value := #[.int .i64 k, .int .i64 m.kind, .int .i64 m.mode, .int .i64 m.owner, .int .i64 m.group, .int .i64 (IT.lnk T k : Nat), .int .i64 (m.data.length + m.names.length : Nat), .int .i64 m.tty]
def zeroC : Array Value := #[.int .i64 0, .int .i64 0, .int .i64 0, .int .i64 0, .int .i64 0, .int .i64 0, .int .i64 0, .int .i64 0]
/-- What down holds while it goes: the asker at B, the result at R, where it stands at X. -/
structure DI (w : World) (t : Nat) (cwd : Int) (c : Cr) (T : IT.Tr) (B R X k : Nat) (m : IT.Nd) (wr : World) : Prop where
  below : Below w.heap.size w wr
  a : wr.heap[B]? = some (.cells (askC t cwd c) 74 (0, 0))
  r : wr.heap[R]? = some (.cells zeroC 35 (0, 0))
  x : wr.heap[X]? = some (.cells (infC T k m) 35 (0, 0))
  at_ : T k = some m
section
variable {w wr wr' : World} {t : Nat} {cwd : Int} {c : Cr} {T : IT.Tr} {B R X k : Nat} {m : IT.Nd}
theorem DI.turn (h : DI w t cwd c T B R X k m wr) (g : Below wr.heap.size wr wr') : DI w t cwd c T B R X k m wr' :=
  ⟨h.below.trans (g.mono h.below.size), (g.block _ (lt_of_heap h.a)).trans h.a, (g.block _ (lt_of_heap h.r)).trans h.r, (g.block _ (lt_of_heap h.x)).trans h.x, h.at_⟩
theorem DI.ca (h : DI w t cwd c T B R X k m wr) (i : Nat) : wr.cell? ⟨B, i, none⟩ = (askC t cwd c)[i]? := cell_of h.a i
theorem DI.cr (h : DI w t cwd c T B R X k m wr) (i : Nat) : wr.cell? ⟨R, i, none⟩ = zeroC[i]? := cell_of h.r i
theorem DI.cx (h : DI w t cwd c T B R X k m wr) (i : Nat) : wr.cell? ⟨X, i, none⟩ = (infC T k m)[i]? := cell_of h.x i
theorem DI.fr (h : DI w t cwd c T B R X k m wr) (i : Nat) : wr.frozen? ⟨R, i, none⟩ = false := frozen_of h.r i
theorem DI.fx (h : DI w t cwd c T B R X k m wr) (i : Nat) : wr.frozen? ⟨X, i, none⟩ = false := frozen_of h.x i
end


/-! Eight cells stored, one after another. -/
theorem arr_set8 {α : Type} (u0 u1 u2 u3 u4 u5 u6 u7 v0 v1 v2 v3 v4 v5 v6 v7 : α) : (((((((((#[u0, u1, u2, u3, u4, u5, u6, u7] : Array α).setIfInBounds 0 v0).setIfInBounds 1 v1).setIfInBounds 2 v2).setIfInBounds 3 v3).setIfInBounds 4 v4).setIfInBounds 5 v5).setIfInBounds 6 v6).setIfInBounds 7 v7) = #[v0, v1, v2, v3, v4, v5, v6, v7] := by
  apply Array.ext'
  simp

section
variable {W : World} {R : Nat} {T : TypeId} {f : Nat × Nat} {v0 v1 v2 v3 v4 v5 v6 v7 u0 u1 u2 u3 u4 u5 u6 u7 : Value}
theorem heap_set8 (h : W.heap[R]? = some (.cells #[u0, u1, u2, u3, u4, u5, u6, u7] T f)) : ((((((((W.setCell ⟨R, 0, none⟩ v0).setCell ⟨R, 1, none⟩ v1).setCell ⟨R, 2, none⟩ v2).setCell ⟨R, 3, none⟩ v3).setCell ⟨R, 4, none⟩ v4).setCell ⟨R, 5, none⟩ v5).setCell ⟨R, 6, none⟩ v6).setCell ⟨R, 7, none⟩ v7).heap[R]? = some (.cells #[v0, v1, v2, v3, v4, v5, v6, v7] T f) := by
  have h0 := heap_setCell_same (i := 0) h v0
  have h1 := heap_setCell_same (i := 1) h0 v1
  have h2 := heap_setCell_same (i := 2) h1 v2
  have h3 := heap_setCell_same (i := 3) h2 v3
  have h4 := heap_setCell_same (i := 4) h3 v4
  have h5 := heap_setCell_same (i := 5) h4 v5
  have h6 := heap_setCell_same (i := 6) h5 v6
  have h7 := heap_setCell_same (i := 7) h6 v7
  rw [arr_set8] at h7
  exact h7
theorem heap_set8_other {b : Nat} (hb : b ≠ R) : ((((((((W.setCell ⟨R, 0, none⟩ v0).setCell ⟨R, 1, none⟩ v1).setCell ⟨R, 2, none⟩ v2).setCell ⟨R, 3, none⟩ v3).setCell ⟨R, 4, none⟩ v4).setCell ⟨R, 5, none⟩ v5).setCell ⟨R, 6, none⟩ v6).setCell ⟨R, 7, none⟩ v7).heap[b]? = W.heap[b]? := by
  rw [Below.heap_setCell _ _ _ _ hb, Below.heap_setCell _ _ _ _ hb, Below.heap_setCell _ _ _ _ hb, Below.heap_setCell _ _ _ _ hb, Below.heap_setCell _ _ _ _ hb, Below.heap_setCell _ _ _ _ hb, Below.heap_setCell _ _ _ _ hb, Below.heap_setCell _ _ _ _ hb]
theorem below_set8 {n : Nat} {w : World} (h : Below n w W) (hn : n ≤ R) : Below n w ((((((((W.setCell ⟨R, 0, none⟩ v0).setCell ⟨R, 1, none⟩ v1).setCell ⟨R, 2, none⟩ v2).setCell ⟨R, 3, none⟩ v3).setCell ⟨R, 4, none⟩ v4).setCell ⟨R, 5, none⟩ v5).setCell ⟨R, 6, none⟩ v6).setCell ⟨R, 7, none⟩ v7) :=
  (((((((h.setCell hn _).setCell hn _).setCell hn _).setCell hn _).setCell hn _).setCell hn _).setCell hn _).setCell hn _
end
theorem ret_info {fn : Func} {tmps : Array Value} {W : World} {R : Nat} {p u : Tmp} {v0 v1 v2 v3 v4 v5 v6 v7 : Value} (hres : fn.results = #[.cell p 35, .tmp u]) (hp : tmps.getD p undef = .pointer (some ⟨R, 0, none⟩))
    (hR : W.heap[R]? = some (.cells #[v0, v1, v2, v3, v4, v5, v6, v7] 35 (0, 0))) : (results fn tmps).run Try.prog W = .ok (.tuple #[.agg #[v0, v1, v2, v3, v4, v5, v6, v7], tmps.getD u undef]) W := by
  rw [results_cell_tmp hres, hp]
  have c0 : W.cell? ⟨R, 0, none⟩ = some v0 := cell_of hR 0
  have c1 : W.cell? ⟨R, 1, none⟩ = some v1 := cell_of hR 1
  have c2 : W.cell? ⟨R, 2, none⟩ = some v2 := cell_of hR 2
  have c3 : W.cell? ⟨R, 3, none⟩ = some v3 := cell_of hR 3
  have c4 : W.cell? ⟨R, 4, none⟩ = some v4 := cell_of hR 4
  have c5 : W.cell? ⟨R, 5, none⟩ = some v5 := cell_of hR 5
  have c6 : W.cell? ⟨R, 6, none⟩ = some v6 := cell_of hR 6
  have c7 : W.cell? ⟨R, 7, none⟩ = some v7 := cell_of hR 7
  simp [go_sem, c0, c1, c2, c3, c4, c5, c6, c7, Try.isAgg35, Try.sizeOf35]
end Go.Proofs.Ytafonmnfeibaiaa
namespace Go.Proofs.Ytafonmnfeibaiaa.RF
open Go.RowKit

/-! ### the document's tree: Stat, New -/
theorem cells10 (w : World) (n : RN) : ∀ j v, n.cells[j]? = some v → (w.alloc (.cells n.cells.toArray 110)).cell? ⟨w.heap.size, j, none⟩ = some v := fun j v h => by
  rw [cell_of (alloc_heap w _) j]; simpa using h
theorem stat_infoV' {T : IT.Tr} {k : Nat} {m : IT.Nd} (h : T k = some m) : statV T k = .agg #[.int .i64 k, .int .i64 m.kind, .int .i64 m.mode, .int .i64 m.owner, .int .i64 m.group, .int .i64 (IT.lnk T k : Nat), .int .i64 (m.data.length + m.names.length : Nat), .int .i64 m.tty] := by unfold statV; rw [h]; rfl
set_option maxRecDepth 100000 in
set_option maxHeartbeats 2000000 in
theorem rf_stat {w : World} {t B : Nat} {G : Gt} {T : IT.Tr} (h : Trf w t B G T) (ki : Int) :
    Calls Try.prog 68 #[.pointer (some ⟨t, 0, none⟩), .int .i64 ki] w fun e w' => e = .returned (.tuple #[statV T ki.toNat, .bool (T ki.toNat).isSome]) ∧ Below w.heap.size w w' := by
  cases hm : T ki.toNat with
  | none =>
    have e0 : statV T ki.toNat = noInfo := by unfold statV; rw [hm]
    rw [e0]
    have HW : Hid (∀ W', Below w.heap.size w W' → Calls Try.prog 82 #[.pointer (some ⟨t, 0, none⟩), .int .i64 ki] W' fun e w' => e = .returned (.bool false) ∧ W' = w') := Lib.hid (fun W' hb => rf_is_no ⟨h.rep.below hb, h.ties, h.snd⟩ ki hm)
    clear h hm e0
    unfold noInfo
    go_enter Try.func68, Try.ntmps68
    go_wp2_with fail
    refine (HW.out _ ((Below.refl _ _).alloc (Nat.le_refl _) _)).mono ?_
    rintro e w' ⟨rfl, rfl⟩
    go_wp2
    exact bodyPost_ret (v := .tuple #[.agg #[.int .i64 0, .int .i64 0, .int .i64 0, .int .i64 0, .int .i64 0, .int .i64 0, .int .i64 0, .int .i64 0], .bool false]) (by simp [results, Try.results68, go_sem]) rfl ⟨rfl, (Below.refl _ _).alloc (Nat.le_refl _) _⟩
  | some m =>
    have e0 := stat_infoV' hm
    rw [e0]
    have HW : Hid (∀ W', Below w.heap.size w W' → Calls Try.prog 82 #[.pointer (some ⟨t, 0, none⟩), .int .i64 ki] W' fun e w' => e = .returned (.bool true) ∧ W' = w') := Lib.hid (fun W' hb => rf_is_yes ⟨h.rep.below hb, h.ties, h.snd⟩ ki hm)
    obtain ⟨k, rfl, hk1, hk2, hk⟩ := h.nat hm
    rw [Int.toNat_natCast]
    have hfew : ∀ j, j ≤ 200 → (G j).ents.length ≤ 40 := h.ties.few h.snd.1
    have hS := sumG_lnk h.snd.1.rng h.ties k
    have HSUM : Hid (∀ W', Below w.heap.size w W' → Calls Try.prog 86 #[.pointer (some ⟨t, 0, none⟩), .int .i64 (k : Int)] W' fun e w' => e = .returned (.int .i64 (IT.lnk T k : Nat)) ∧ w' = W') := Lib.hid (fun W' hb => (rf_sum (h.rep.below hb) k hfew).mono (by
      rintro e w' ⟨rfl, rfl⟩
      rw [hS]
      exact ⟨rfl, rfl⟩))
    have hkp := h.ties.sok k m hk
    have c0 := h.rep.cellT
    have hltT := h.rep.ltT
    have hltB := h.rep.ltB
    have b0 := h.rep.c0 k hk2
    have b1 := h.rep.c1 k hk2
    have b2 := h.rep.c2 k hk2
    have b3 := h.rep.c3 k hk2
    have b4 := h.rep.c4 k hk2
    have b5 := h.rep.c5 k hk2
    have b6 := h.rep.c6 k hk2
    have b7 := h.rep.c7 k hk2
    have b8 := h.rep.c8 k hk2
    have b9 := h.rep.c9 k hk2
    obtain ⟨a, cap, hs, hl1, hl2, _⟩ := (h.rep.ents k hk2).lit
    rw [hs] at b9
    rw [hkp.kind] at b1
    rw [hkp.mode] at b2
    rw [hkp.owner] at b3
    rw [hkp.group] at b4
    rw [hkp.tty] at b5
    have hd : m.data.length = (G k).data.size := by rw [← hkp.data, bs_len]
    have hn : m.names.length = (G k).ents.length := by have := hkp.names.length_eq; unfold ents at this; rw [List.length_map] at this; exact this.symm
    have hd4 : ((G k).data.size : Int) ≤ 4096 := by have := h.snd.1.size k m hk; omega
    have hn4 : ((G k).ents.length : Int) ≤ 40 := by have := hfew k hk2; omega
    rw [show ((m.data.length + m.names.length : Nat) : Int) = ((G k).data.size : Int) + ((G k).ents.length : Int) by omega]
    generalize (G k).data = D at *
    generalize (G k).ents.length = L at *
    generalize (G k).is = x0 at *
    generalize (G k).holds = x6 at *
    generalize (G k).parent = x7 at *
    generalize IT.lnk T k = Z at *
    have HZ : True := trivial
    clear h hm hk hkp hs hl1 hl2 hd hn hfew hS e0 HZ
    go_enter Try.func68, Try.ntmps68
    go_wp2_with fail
    refine (HW.out _ ((Below.refl _ _).alloc (Nat.le_refl _) _)).mono ?_
    rintro e w' ⟨rfl, rfl⟩
    go_wp2_with fail
    have hR := (alloc_heap_old (w.alloc (.cells #[.int .i64 0, .int .i64 0, .int .i64 0, .int .i64 0, .int .i64 0, .int .i64 0, .int .i64 0, .int .i64 0] 35)) (.cells #[.bool x0, .int .i64 m.kind, .int .i64 m.mode, .int .i64 m.owner, .int .i64 m.group, .int .i64 m.tty, .int .i64 x6, .int .i64 x7, .string D, .slice a L cap] 110) (by rw [alloc_size]; omega)).trans (alloc_heap w (.cells #[.int .i64 0, .int .i64 0, .int .i64 0, .int .i64 0, .int .i64 0, .int .i64 0, .int .i64 0, .int .i64 0] 35))
    have hX := alloc_heap (w.alloc (.cells #[.int .i64 0, .int .i64 0, .int .i64 0, .int .i64 0, .int .i64 0, .int .i64 0, .int .i64 0, .int .i64 0] 35)) (.cells #[.bool x0, .int .i64 m.kind, .int .i64 m.mode, .int .i64 m.owner, .int .i64 m.group, .int .i64 m.tty, .int .i64 x6, .int .i64 x7, .string D, .slice a L cap] 110)
    rw [alloc_size] at hX
    have hBW : Below w.heap.size w (((w.alloc (.cells #[.int .i64 0, .int .i64 0, .int .i64 0, .int .i64 0, .int .i64 0, .int .i64 0, .int .i64 0, .int .i64 0] 35)).alloc (.cells #[.bool x0, .int .i64 m.kind, .int .i64 m.mode, .int .i64 m.owner, .int .i64 m.group, .int .i64 m.tty, .int .i64 x6, .int .i64 x7, .string D, .slice a L cap] 110)).drew) := ((((Below.refl _ _).alloc (Nat.le_refl _) _).alloc (by rw [alloc_size]; omega) _).drew)
    clear c0 hltT hltB b0 b1 b2 b3 b4 b5 b6 b7 b8 b9
    refine wp_region_still_tail 22 (by kernel_rfl) (by kernel_rfl) ?_
    change (((w.alloc (.cells #[.int .i64 0, .int .i64 0, .int .i64 0, .int .i64 0, .int .i64 0, .int .i64 0, .int .i64 0, .int .i64 0] 35)).alloc (.cells #[.bool x0, .int .i64 m.kind, .int .i64 m.mode, .int .i64 m.owner, .int .i64 m.group, .int .i64 m.tty, .int .i64 x6, .int .i64 x7, .string D, .slice a L cap] 110)).drew).heap[w.heap.size]? = _ at hR
    change (((w.alloc (.cells #[.int .i64 0, .int .i64 0, .int .i64 0, .int .i64 0, .int .i64 0, .int .i64 0, .int .i64 0, .int .i64 0] 35)).alloc (.cells #[.bool x0, .int .i64 m.kind, .int .i64 m.mode, .int .i64 m.owner, .int .i64 m.group, .int .i64 m.tty, .int .i64 x6, .int .i64 x7, .string D, .slice a L cap] 110)).drew).heap[w.heap.size + 1]? = _ at hX
    change wpStill _ _ (((w.alloc (.cells #[.int .i64 0, .int .i64 0, .int .i64 0, .int .i64 0, .int .i64 0, .int .i64 0, .int .i64 0, .int .i64 0] 35)).alloc (.cells #[.bool x0, .int .i64 m.kind, .int .i64 m.mode, .int .i64 m.owner, .int .i64 m.group, .int .i64 m.tty, .int .i64 x6, .int .i64 x7, .string D, .slice a L cap] 110)).drew) (fun a' => wpList _ _ _ _ a' (((w.alloc (.cells #[.int .i64 0, .int .i64 0, .int .i64 0, .int .i64 0, .int .i64 0, .int .i64 0, .int .i64 0, .int .i64 0] 35)).alloc (.cells #[.bool x0, .int .i64 m.kind, .int .i64 m.mode, .int .i64 m.owner, .int .i64 m.group, .int .i64 m.tty, .int .i64 x6, .int .i64 x7, .string D, .slice a L cap] 110)).drew)) _ _
    generalize (((w.alloc (.cells #[.int .i64 0, .int .i64 0, .int .i64 0, .int .i64 0, .int .i64 0, .int .i64 0, .int .i64 0, .int .i64 0] 35)).alloc (.cells #[.bool x0, .int .i64 m.kind, .int .i64 m.mode, .int .i64 m.owner, .int .i64 m.group, .int .i64 m.tty, .int .i64 x6, .int .i64 x7, .string D, .slice a L cap] 110)).drew) = W at *
    have r0 : W.cell? ⟨w.heap.size, 0, none⟩ = some (.int .i64 0) := cell_of hR 0
    have r1 : W.cell? ⟨w.heap.size, 1, none⟩ = some (.int .i64 0) := cell_of hR 1
    have r2 : W.cell? ⟨w.heap.size, 2, none⟩ = some (.int .i64 0) := cell_of hR 2
    have r3 : W.cell? ⟨w.heap.size, 3, none⟩ = some (.int .i64 0) := cell_of hR 3
    have r4 : W.cell? ⟨w.heap.size, 4, none⟩ = some (.int .i64 0) := cell_of hR 4
    have r5 : W.cell? ⟨w.heap.size, 5, none⟩ = some (.int .i64 0) := cell_of hR 5
    have r6 : W.cell? ⟨w.heap.size, 6, none⟩ = some (.int .i64 0) := cell_of hR 6
    have r7 : W.cell? ⟨w.heap.size, 7, none⟩ = some (.int .i64 0) := cell_of hR 7
    have z0 : W.frozen? ⟨w.heap.size, 0, none⟩ = false := frozen_of hR 0
    have z1 : W.frozen? ⟨w.heap.size, 1, none⟩ = false := frozen_of hR 1
    have z2 : W.frozen? ⟨w.heap.size, 2, none⟩ = false := frozen_of hR 2
    have z3 : W.frozen? ⟨w.heap.size, 3, none⟩ = false := frozen_of hR 3
    have z4 : W.frozen? ⟨w.heap.size, 4, none⟩ = false := frozen_of hR 4
    have z5 : W.frozen? ⟨w.heap.size, 5, none⟩ = false := frozen_of hR 5
    have z6 : W.frozen? ⟨w.heap.size, 6, none⟩ = false := frozen_of hR 6
    have z7 : W.frozen? ⟨w.heap.size, 7, none⟩ = false := frozen_of hR 7
    have x1 : W.cell? ⟨w.heap.size + 1, 1, none⟩ = some (.int .i64 m.kind) := cell_of hX 1
    have x2 : W.cell? ⟨w.heap.size + 1, 2, none⟩ = some (.int .i64 m.mode) := cell_of hX 2
    have x3 : W.cell? ⟨w.heap.size + 1, 3, none⟩ = some (.int .i64 m.owner) := cell_of hX 3
    have x4 : W.cell? ⟨w.heap.size + 1, 4, none⟩ = some (.int .i64 m.group) := cell_of hX 4
    have x5 : W.cell? ⟨w.heap.size + 1, 5, none⟩ = some (.int .i64 m.tty) := cell_of hX 5
    have x8 : W.cell? ⟨w.heap.size + 1, 8, none⟩ = some (.string D) := cell_of hX 8
    have x9 : W.cell? ⟨w.heap.size + 1, 9, none⟩ = some (.slice a L cap) := cell_of hX 9
    have HRR := Lib.hid hR
    have HBW := Lib.hid hBW
    clear hR hX hBW
    simp only [List.take_succ_cons, List.take_zero, List.drop_succ_cons, List.drop_zero]
    repeat still_step
    still_call (HSUM.out _ HBW.out)
    repeat still_step
    refine wpStill_nil ?_
    go_wp2
    exact bodyPost_ret (ret_info rfl rfl (heap_set8 HRR.out)) rfl ⟨rfl, below_set8 HBW.out (Nat.le_refl _)⟩
end Go.Proofs.Ytafonmnfeibaiaa.RF
namespace Go.Proofs.Ytafonmnfeibaiaa.RF
open Go.RowKit

/-! ### the document's tree: Make -/
def makeBad (kind mo o g tty : Int) : Prop := kind < 0 ∨ 2 < kind ∨ rightB mo o g = false ∨ (kind = 2 ∧ (tty < 0 ∨ 4 ≤ tty))
set_option maxRecDepth 100000 in
set_option maxHeartbeats 2000000 in
theorem rf_make_bad {t : Nat} (kind mo o g tty : Int) (hmo : mo < 9223372036854775808) (w : World) (hb : makeBad kind mo o g tty) :
    Calls Try.prog 58 #[.pointer (some ⟨t, 0, none⟩), .int .i64 kind, .int .i64 mo, .int .i64 o, .int .i64 g, .int .i64 tty] w fun e w' => e = .returned (.tuple #[.int .i64 0, .int .i64 1]) ∧ w = w' := by
  have HR := Lib.hid (Md.rright_any mo hmo w)
  have HO := Lib.hid (rf_id o w)
  have HG := Lib.hid (rf_id g w)
  unfold makeBad at hb
  rw [right_ids] at hb
  clear hmo
  generalize Md.rightB mo = rm at *
  by_cases h1 : kind < 0
  · clear hb
    go_enter Try.func58, Try.ntmps58
    go_wp2_with fail
    refine HR.out.mono ?_
    rintro e w2 ⟨rfl, rfl⟩
    go_wp2
    go_ret2
    exact ⟨rfl, rfl⟩
  · by_cases h2 : 2 < kind
    · clear hb
      go_enter Try.func58, Try.ntmps58
      go_wp2_with fail
      refine HR.out.mono ?_
      rintro e w2 ⟨rfl, rfl⟩
      go_wp2
      go_ret2
      exact ⟨rfl, rfl⟩
    · cases rm with
      | false =>
        clear hb
        go_enter Try.func58, Try.ntmps58
        go_wp2_with fail
        refine HR.out.mono ?_
        rintro e w2 ⟨rfl, rfl⟩
        go_wp2
        go_ret2
        exact ⟨rfl, rfl⟩
      | true =>
        cases ho : idB o with
        | false =>
          rw [ho] at HO
          clear hb ho
          go_enter Try.func58, Try.ntmps58
          go_wp2_with fail
          refine HR.out.mono ?_
          rintro e w2 ⟨rfl, rfl⟩
          go_wp2_with fail
          refine HO.out.mono ?_
          rintro e w2 ⟨rfl, rfl⟩
          go_wp2
          go_ret2
          exact ⟨rfl, rfl⟩
        | true =>
          rw [ho] at HO
          cases hg : idB g with
          | false =>
            rw [hg] at HG
            clear hb ho hg
            go_enter Try.func58, Try.ntmps58
            go_wp2_with fail
            refine HR.out.mono ?_
            rintro e w2 ⟨rfl, rfl⟩
            go_wp2_with fail
            refine HO.out.mono ?_
            rintro e w2 ⟨rfl, rfl⟩
            go_wp2_with fail
            refine HG.out.mono ?_
            rintro e w2 ⟨rfl, rfl⟩
            go_wp2
            go_ret2
            exact ⟨rfl, rfl⟩
          | true =>
            rw [hg] at HG
            have hk : kind = 2 ∧ (tty < 0 ∨ 4 ≤ tty) := by
              rcases hb with hb | hb | hb | hb
              · omega
              · omega
              · rw [ho, hg] at hb; cases hb
              · exact hb
            obtain ⟨rfl, hk⟩ := hk
            clear hb ho hg
            by_cases h3 : tty < 0
            · clear hk
              go_enter Try.func58, Try.ntmps58
              go_wp2_with fail
              refine HR.out.mono ?_
              rintro e w2 ⟨rfl, rfl⟩
              go_wp2_with fail
              refine HO.out.mono ?_
              rintro e w2 ⟨rfl, rfl⟩
              go_wp2_with fail
              refine HG.out.mono ?_
              rintro e w2 ⟨rfl, rfl⟩
              go_wp2
              go_ret2
              exact ⟨rfl, rfl⟩
            · have h4 : 4 ≤ tty := by omega
              clear hk
              go_enter Try.func58, Try.ntmps58
              go_wp2_with fail
              refine HR.out.mono ?_
              rintro e w2 ⟨rfl, rfl⟩
              go_wp2_with fail
              refine HO.out.mono ?_
              rintro e w2 ⟨rfl, rfl⟩
              go_wp2_with fail
              refine HG.out.mono ?_
              rintro e w2 ⟨rfl, rfl⟩
              go_wp2
              go_ret2
              exact ⟨rfl, rfl⟩
def makeN (kind mo o g tty : Int) (k : Nat) : IT.Nd := ⟨kind, mo, o, g, if kind = 2 then tty else 0, 1, [], [], if kind = 1 then k else 0⟩
def makeR (kind mo o g tty : Int) (k : Nat) : RN := ⟨true, kind, mo, o, g, if kind = 2 then tty else 0, 1, ((if kind = 1 then k else 0 : Nat) : Int), ⟨#[]⟩, .slice none 0 0, []⟩
theorem make_kept (kind mo o g tty : Int) (k : Nat) : Kept (makeR kind mo o g tty k) (makeN kind mo o g tty k) := ⟨rfl, rfl, rfl, rfl, rfl, rfl, rfl, fun _ => rfl, rfl, List.Perm.refl _⟩
theorem make_stf {w W : World} {t B : Nat} {G : Gt} {T : IT.Tr} (h : Trf w t B G T) (hb : Below w.heap.size w W) {kind mo o g tty : Int} (hbad : ¬ makeBad kind mo o g tty) {k : Nat} (hk1 : 1 ≤ k) (hk2 : k ≤ 200) (hk : T k = none) (hf : ∀ j, 1 ≤ j → j < k → T j ≠ none) :
    Stf w t B (fun T' => IT.isMake rt T kind mo o g tty k 0 T') (W.setCells B (k * 10) (makeR kind mo o g tty k).cells) := by
  refine ⟨_, _, (Mo.of hb).setCells _ _, (h.rep.below hb).setAll hk2 _ (EntAt.nil _ _ rfl rfl), h.ties.set k (make_kept kind mo o g tty k), ?_⟩
  unfold makeBad at hbad
  show IT.isMake rt T kind mo o g tty k 0 _
  unfold IT.isMake
  have hr : rightB mo o g = true := by
    cases hh : rightB mo o g with
    | true => rfl
    | false => exact absurd (.inr (.inr (.inl hh))) hbad
  rw [if_neg (by rintro (a | a | a); exact hbad (.inl a); exact hbad (.inr (.inl a)); exact a hr), if_neg (fun hh => hbad (.inr (.inr (.inr ⟨hh.1, by omega⟩)))), if_neg (fun hh => hh k hk1 hk2 hk)]
  exact ⟨rfl, hk1, hk2, hk, hf, rfl⟩
theorem make_full {w : World} {t B : Nat} {G : Gt} {T : IT.Tr} (h : Trf w t B G T) {kind mo o g tty : Int} (hbad : ¬ makeBad kind mo o g tty) (hf : ∀ j, 1 ≤ j → j < 201 → T j ≠ none) :
    Stf w t B (fun T' => IT.isMake rt T kind mo o g tty 0 9 T') w := by
  refine Stf.keep h (Below.refl _ _) ?_
  unfold makeBad at hbad
  unfold IT.isMake
  have hr : rightB mo o g = true := by
    cases hh : rightB mo o g with
    | true => rfl
    | false => exact absurd (.inr (.inr (.inl hh))) hbad
  rw [if_neg (by rintro (a | a | a); exact hbad (.inl a); exact hbad (.inr (.inl a)); exact a hr), if_neg (fun hh => hbad (.inr (.inr (.inr ⟨hh.1, by omega⟩)))), if_pos (fun k h1 h2 => hf k h1 (by omega))]
  exact ⟨rfl, rfl, rfl⟩
set_option maxRecDepth 100000 in
set_option maxHeartbeats 4000000 in
theorem rf_make {w : World} {t B : Nat} {G : Gt} {T : IT.Tr} (h : Trf w t B G T) (kind mo o g tty : Int) (hmo : mo < 9223372036854775808) :
    Calls Try.prog 58 #[.pointer (some ⟨t, 0, none⟩), .int .i64 kind, .int .i64 mo, .int .i64 o, .int .i64 g, .int .i64 tty] w fun e w' => ∃ (i : Nat) (r : Int), e = .returned (.tuple #[.int .i64 i, .int .i64 r]) ∧ Stf w t B (fun T' => IT.isMake rt T kind mo o g tty i r T') w' := by
  by_cases hbad : makeBad kind mo o g tty
  · refine (rf_make_bad kind mo o g tty hmo w hbad).mono ?_
    rintro e w' ⟨rfl, rfl⟩
    refine ⟨0, 1, rfl, Stf.keep h (Below.refl _ _) ?_⟩
    unfold makeBad at hbad
    unfold IT.isMake
    rcases hbad with a | a | a | a
    · rw [if_pos (.inl a)]; exact ⟨rfl, rfl, rfl⟩
    · rw [if_pos (.inr (.inl a))]; exact ⟨rfl, rfl, rfl⟩
    · rw [if_pos (.inr (.inr (fun hh => by unfold rt at hh; rw [a] at hh; cases hh)))]; exact ⟨rfl, rfl, rfl⟩
    · by_cases hx : kind < 0 ∨ kind > 2 ∨ ¬ rt mo o g
      · rw [if_pos hx]; exact ⟨rfl, rfl, rfl⟩
      · rw [if_neg hx, if_pos a]; exact ⟨rfl, rfl, rfl⟩
  · have HR : Hid (Calls Try.prog 56 #[.int .i64 mo] w fun e w' => e = .returned (.bool (Md.rightB mo)) ∧ w = w') := Lib.hid ((Md.rright_any mo hmo w).mono (fun _ _ h => ⟨h.1, h.2.symm⟩))
    have HO := Lib.hid (rf_id o w)
    have HG := Lib.hid (rf_id g w)
    have hr : rightB mo o g = true := by
      cases hh : rightB mo o g with
      | true => rfl
      | false => exact absurd (.inr (.inr (.inl hh))) hbad
    obtain ⟨r1, r2, r3⟩ := right_parts hr
    rw [r1] at HR
    rw [r2] at HO
    rw [r3] at HG
    have HBAD := Lib.hid hbad
    have H := Lib.hid h
    have hkind : kind = 0 ∨ kind = 1 ∨ (kind = 2 ∧ 0 ≤ tty ∧ tty < 4) := by
      unfold makeBad at hbad
      by_cases h0 : kind = 0
      · exact .inl h0
      · by_cases h1 : kind = 1
        · exact .inr (.inl h1)
        · have h2 : kind = 2 := by
            have := fun e => hbad (.inl e)
            have := fun e => hbad (.inr (.inl e))
            omega
          refine .inr (.inr ⟨h2, ?_, ?_⟩)
          · exact Int.not_lt.1 (fun e => hbad (.inr (.inr (.inr ⟨h2, .inl e⟩))))
          · exact Int.not_le.1 (fun e => hbad (.inr (.inr (.inr ⟨h2, .inr e⟩))))
    clear h hbad hr r1 r2 r3 hmo
    rcases hkind with rfl | rfl | ⟨rfl, ht1, ht2⟩
    · go_enter Try.func58, Try.ntmps58
      go_wp2_with fail
      refine HR.out.mono ?_
      rintro e w2 ⟨rfl, rfl⟩
      go_wp2_with fail
      refine HO.out.mono ?_
      rintro e w2 ⟨rfl, rfl⟩
      go_wp2_with fail
      refine HG.out.mono ?_
      rintro e w2 ⟨rfl, rfl⟩
      go_wp2
      go_loopg [15] 200 (fun gg iv wr => ∃ k : Nat, 1 ≤ k ∧ k + gg = 201 ∧ iv = .int .i64 (k : Int) ∧ wr = w ∧ Hid (∀ j, 1 ≤ j → j < k → T j ≠ none))
      case atStart => exact ⟨1, by omega, by omega, rfl, rfl, Lib.hid (fun j h1 h2 => by omega)⟩
      case round =>
        obtain ⟨k, hk1, hkg, rfl, rfl, HF⟩ := hrel
        by_cases hlt : k ≤ 200
        · obtain ⟨og, rfl⟩ : ∃ og, gk = og + 1 := ⟨gk - 1, by omega⟩
          have c0 := H.out.rep.cellT
          have b0 := H.out.rep.c0 k hlt
          cases hA : T k with
          | some m =>
            rw [(H.out.ties.sok k m hA).is] at b0
            have HF2 : Hid (∀ j, 1 ≤ j → j < k + 1 → T j ≠ none) := Lib.hid (fun j h1 h2 => by
              by_cases e : j = k
              · subst e; rw [hA]; exact fun e => by cases e
              · exact HF.out j h1 (by omega))
            clear hA
            go_wp2
            go_roundg og
            case measure => omega
            case rel => exact ⟨k + 1, by omega, by omega, by go_num, rfl, HF2⟩
          | none =>
            rw [(H.out.ties.nok k hlt hA).1] at b0
            have HA := Lib.hid hA
            clear hA
            go_wp2_with fail
            have hX := alloc_heap wr (.cells #[.bool true, .int .i64 0, .int .i64 mo, .int .i64 o, .int .i64 g, .int .i64 0, .int .i64 1, .int .i64 0, .string ⟨#[]⟩, .slice none 0 0] 110)
            have hbw : Below wr.heap.size wr ((wr.alloc (.cells #[.bool true, .int .i64 0, .int .i64 mo, .int .i64 o, .int .i64 g, .int .i64 0, .int .i64 1, .int .i64 0, .string ⟨#[]⟩, .slice none 0 0] 110)).drew) := ((Below.refl _ _).alloc (Nat.le_refl _) _).drew
            change ((wr.alloc (.cells #[.bool true, .int .i64 0, .int .i64 mo, .int .i64 o, .int .i64 g, .int .i64 0, .int .i64 1, .int .i64 0, .string ⟨#[]⟩, .slice none 0 0] 110)).drew).heap[wr.heap.size]? = _ at hX
            refine wp_region_still_tail 7 (by kernel_rfl) (by kernel_rfl) ?_
            change wpStill _ _ ((wr.alloc (.cells #[.bool true, .int .i64 0, .int .i64 mo, .int .i64 o, .int .i64 g, .int .i64 0, .int .i64 1, .int .i64 0, .string ⟨#[]⟩, .slice none 0 0] 110)).drew) (fun a' => wpList _ _ _ _ a' ((wr.alloc (.cells #[.bool true, .int .i64 0, .int .i64 mo, .int .i64 o, .int .i64 g, .int .i64 0, .int .i64 1, .int .i64 0, .string ⟨#[]⟩, .slice none 0 0] 110)).drew)) _ _
            generalize ((wr.alloc (.cells #[.bool true, .int .i64 0, .int .i64 mo, .int .i64 o, .int .i64 g, .int .i64 0, .int .i64 1, .int .i64 0, .string ⟨#[]⟩, .slice none 0 0] 110)).drew) = W at *
            clear c0 b0
            have c0 := (H.out.rep.below hbw).cellT
            have x0 : W.cell? ⟨wr.heap.size, 0, none⟩ = some (.bool true) := cell_of hX 0
            have x1 : W.cell? ⟨wr.heap.size, 1, none⟩ = some (.int .i64 0) := cell_of hX 1
            have x2 : W.cell? ⟨wr.heap.size, 2, none⟩ = some (.int .i64 mo) := cell_of hX 2
            have x3 : W.cell? ⟨wr.heap.size, 3, none⟩ = some (.int .i64 o) := cell_of hX 3
            have x4 : W.cell? ⟨wr.heap.size, 4, none⟩ = some (.int .i64 g) := cell_of hX 4
            have x5 : W.cell? ⟨wr.heap.size, 5, none⟩ = some (.int .i64 0) := cell_of hX 5
            have x6 : W.cell? ⟨wr.heap.size, 6, none⟩ = some (.int .i64 1) := cell_of hX 6
            have x7 : W.cell? ⟨wr.heap.size, 7, none⟩ = some (.int .i64 0) := cell_of hX 7
            have x8 : W.cell? ⟨wr.heap.size, 8, none⟩ = some (.string ⟨#[]⟩) := cell_of hX 8
            have x9 : W.cell? ⟨wr.heap.size, 9, none⟩ = some (.slice none 0 0) := cell_of hX 9
            have HBW := Lib.hid hbw
            have hT : W.there B (k * 10) 10 := (H.out.rep.below hbw).there hlt
            have hI : (Try.prog.info? 110).map (·.size) = some 10 := rfl
            clear hX hbw
            have n1 : k < 201 := by omega
            have n2 : (k : Int) < 201 := by omega
            simp only [List.take_succ_cons, List.take_zero, List.drop_succ_cons, List.drop_zero]
            repeat still_step
            refine wpStill_nil ?_
            have HS := Lib.hid (make_stf H.out HBW.out HBAD.out hk1 hlt HA.out HF.out)
            refine wpList_store_mid rfl 110 _ _ rfl B (k * 10) (makeR 0 mo o g tty k).cells.toArray rfl rfl hT hI (by simp [RN.cells, makeR, Value.oneCell']) ?_
            have HS2 : Hid (Stf wr t B (fun T' => IT.isMake rt T 0 mo o g tty k 0 T') (World.setCells W B (k * 10) (makeR 0 mo o g tty k).cells.toArray.toList)) := HS
            generalize World.setCells W B (k * 10) (makeR 0 mo o g tty k).cells.toArray.toList = W5 at HS2 ⊢
            clear HS hT hI
            go_wp2
            go_ret2
            exact ⟨k, 0, rfl, HS2.out⟩
        · obtain rfl : k = 201 := by omega
          have HS := Lib.hid (make_full H.out HBAD.out HF.out)
          clear hlt
          go_wp2
          go_ret2
          exact ⟨0, 9, rfl, HS.out⟩
    · go_enter Try.func58, Try.ntmps58
      go_wp2_with fail
      refine HR.out.mono ?_
      rintro e w2 ⟨rfl, rfl⟩
      go_wp2_with fail
      refine HO.out.mono ?_
      rintro e w2 ⟨rfl, rfl⟩
      go_wp2_with fail
      refine HG.out.mono ?_
      rintro e w2 ⟨rfl, rfl⟩
      go_wp2
      go_loopg [15] 200 (fun gg iv wr => ∃ k : Nat, 1 ≤ k ∧ k + gg = 201 ∧ iv = .int .i64 (k : Int) ∧ wr = w ∧ Hid (∀ j, 1 ≤ j → j < k → T j ≠ none))
      case atStart => exact ⟨1, by omega, by omega, rfl, rfl, Lib.hid (fun j h1 h2 => by omega)⟩
      case round =>
        obtain ⟨k, hk1, hkg, rfl, rfl, HF⟩ := hrel
        by_cases hlt : k ≤ 200
        · obtain ⟨og, rfl⟩ : ∃ og, gk = og + 1 := ⟨gk - 1, by omega⟩
          have c0 := H.out.rep.cellT
          have b0 := H.out.rep.c0 k hlt
          cases hA : T k with
          | some m =>
            rw [(H.out.ties.sok k m hA).is] at b0
            have HF2 : Hid (∀ j, 1 ≤ j → j < k + 1 → T j ≠ none) := Lib.hid (fun j h1 h2 => by
              by_cases e : j = k
              · subst e; rw [hA]; exact fun e => by cases e
              · exact HF.out j h1 (by omega))
            clear hA
            go_wp2
            go_roundg og
            case measure => omega
            case rel => exact ⟨k + 1, by omega, by omega, by go_num, rfl, HF2⟩
          | none =>
            rw [(H.out.ties.nok k hlt hA).1] at b0
            have HA := Lib.hid hA
            clear hA
            go_wp2_with fail
            have hX := alloc_heap wr (.cells #[.bool true, .int .i64 1, .int .i64 mo, .int .i64 o, .int .i64 g, .int .i64 0, .int .i64 1, .int .i64 (k : Int), .string ⟨#[]⟩, .slice none 0 0] 110)
            have hbw : Below wr.heap.size wr ((wr.alloc (.cells #[.bool true, .int .i64 1, .int .i64 mo, .int .i64 o, .int .i64 g, .int .i64 0, .int .i64 1, .int .i64 (k : Int), .string ⟨#[]⟩, .slice none 0 0] 110)).drew) := ((Below.refl _ _).alloc (Nat.le_refl _) _).drew
            change ((wr.alloc (.cells #[.bool true, .int .i64 1, .int .i64 mo, .int .i64 o, .int .i64 g, .int .i64 0, .int .i64 1, .int .i64 (k : Int), .string ⟨#[]⟩, .slice none 0 0] 110)).drew).heap[wr.heap.size]? = _ at hX
            refine wp_region_still_tail 7 (by kernel_rfl) (by kernel_rfl) ?_
            change wpStill _ _ ((wr.alloc (.cells #[.bool true, .int .i64 1, .int .i64 mo, .int .i64 o, .int .i64 g, .int .i64 0, .int .i64 1, .int .i64 (k : Int), .string ⟨#[]⟩, .slice none 0 0] 110)).drew) (fun a' => wpList _ _ _ _ a' ((wr.alloc (.cells #[.bool true, .int .i64 1, .int .i64 mo, .int .i64 o, .int .i64 g, .int .i64 0, .int .i64 1, .int .i64 (k : Int), .string ⟨#[]⟩, .slice none 0 0] 110)).drew)) _ _
            generalize ((wr.alloc (.cells #[.bool true, .int .i64 1, .int .i64 mo, .int .i64 o, .int .i64 g, .int .i64 0, .int .i64 1, .int .i64 (k : Int), .string ⟨#[]⟩, .slice none 0 0] 110)).drew) = W at *
            clear c0 b0
            have c0 := (H.out.rep.below hbw).cellT
            have x0 : W.cell? ⟨wr.heap.size, 0, none⟩ = some (.bool true) := cell_of hX 0
            have x1 : W.cell? ⟨wr.heap.size, 1, none⟩ = some (.int .i64 1) := cell_of hX 1
            have x2 : W.cell? ⟨wr.heap.size, 2, none⟩ = some (.int .i64 mo) := cell_of hX 2
            have x3 : W.cell? ⟨wr.heap.size, 3, none⟩ = some (.int .i64 o) := cell_of hX 3
            have x4 : W.cell? ⟨wr.heap.size, 4, none⟩ = some (.int .i64 g) := cell_of hX 4
            have x5 : W.cell? ⟨wr.heap.size, 5, none⟩ = some (.int .i64 0) := cell_of hX 5
            have x6 : W.cell? ⟨wr.heap.size, 6, none⟩ = some (.int .i64 1) := cell_of hX 6
            have x7 : W.cell? ⟨wr.heap.size, 7, none⟩ = some (.int .i64 (k : Int)) := cell_of hX 7
            have x8 : W.cell? ⟨wr.heap.size, 8, none⟩ = some (.string ⟨#[]⟩) := cell_of hX 8
            have x9 : W.cell? ⟨wr.heap.size, 9, none⟩ = some (.slice none 0 0) := cell_of hX 9
            have HBW := Lib.hid hbw
            have hT : W.there B (k * 10) 10 := (H.out.rep.below hbw).there hlt
            have hI : (Try.prog.info? 110).map (·.size) = some 10 := rfl
            clear hX hbw
            have n1 : k < 201 := by omega
            have n2 : (k : Int) < 201 := by omega
            simp only [List.take_succ_cons, List.take_zero, List.drop_succ_cons, List.drop_zero]
            repeat still_step
            refine wpStill_nil ?_
            have HS := Lib.hid (make_stf H.out HBW.out HBAD.out hk1 hlt HA.out HF.out)
            refine wpList_store_mid rfl 110 _ _ rfl B (k * 10) (makeR 1 mo o g tty k).cells.toArray rfl rfl hT hI (by simp [RN.cells, makeR, Value.oneCell']) ?_
            have HS2 : Hid (Stf wr t B (fun T' => IT.isMake rt T 1 mo o g tty k 0 T') (World.setCells W B (k * 10) (makeR 1 mo o g tty k).cells.toArray.toList)) := HS
            generalize World.setCells W B (k * 10) (makeR 1 mo o g tty k).cells.toArray.toList = W5 at HS2 ⊢
            clear HS hT hI
            go_wp2
            go_ret2
            exact ⟨k, 0, rfl, HS2.out⟩
        · obtain rfl : k = 201 := by omega
          have HS := Lib.hid (make_full H.out HBAD.out HF.out)
          clear hlt
          go_wp2
          go_ret2
          exact ⟨0, 9, rfl, HS.out⟩
    · go_enter Try.func58, Try.ntmps58
      go_wp2_with fail
      refine HR.out.mono ?_
      rintro e w2 ⟨rfl, rfl⟩
      go_wp2_with fail
      refine HO.out.mono ?_
      rintro e w2 ⟨rfl, rfl⟩
      go_wp2_with fail
      refine HG.out.mono ?_
      rintro e w2 ⟨rfl, rfl⟩
      go_wp2
      go_loopg [15] 200 (fun gg iv wr => ∃ k : Nat, 1 ≤ k ∧ k + gg = 201 ∧ iv = .int .i64 (k : Int) ∧ wr = w ∧ Hid (∀ j, 1 ≤ j → j < k → T j ≠ none))
      case atStart => exact ⟨1, by omega, by omega, rfl, rfl, Lib.hid (fun j h1 h2 => by omega)⟩
      case round =>
        obtain ⟨k, hk1, hkg, rfl, rfl, HF⟩ := hrel
        by_cases hlt : k ≤ 200
        · obtain ⟨og, rfl⟩ : ∃ og, gk = og + 1 := ⟨gk - 1, by omega⟩
          have c0 := H.out.rep.cellT
          have b0 := H.out.rep.c0 k hlt
          cases hA : T k with
          | some m =>
            rw [(H.out.ties.sok k m hA).is] at b0
            have HF2 : Hid (∀ j, 1 ≤ j → j < k + 1 → T j ≠ none) := Lib.hid (fun j h1 h2 => by
              by_cases e : j = k
              · subst e; rw [hA]; exact fun e => by cases e
              · exact HF.out j h1 (by omega))
            clear hA
            go_wp2
            go_roundg og
            case measure => omega
            case rel => exact ⟨k + 1, by omega, by omega, by go_num, rfl, HF2⟩
          | none =>
            rw [(H.out.ties.nok k hlt hA).1] at b0
            have HA := Lib.hid hA
            clear hA
            go_wp2_with fail
            have hX := alloc_heap wr (.cells #[.bool true, .int .i64 2, .int .i64 mo, .int .i64 o, .int .i64 g, .int .i64 tty, .int .i64 1, .int .i64 0, .string ⟨#[]⟩, .slice none 0 0] 110)
            have hbw : Below wr.heap.size wr ((wr.alloc (.cells #[.bool true, .int .i64 2, .int .i64 mo, .int .i64 o, .int .i64 g, .int .i64 tty, .int .i64 1, .int .i64 0, .string ⟨#[]⟩, .slice none 0 0] 110)).drew) := ((Below.refl _ _).alloc (Nat.le_refl _) _).drew
            change ((wr.alloc (.cells #[.bool true, .int .i64 2, .int .i64 mo, .int .i64 o, .int .i64 g, .int .i64 tty, .int .i64 1, .int .i64 0, .string ⟨#[]⟩, .slice none 0 0] 110)).drew).heap[wr.heap.size]? = _ at hX
            refine wp_region_still_tail 7 (by kernel_rfl) (by kernel_rfl) ?_
            change wpStill _ _ ((wr.alloc (.cells #[.bool true, .int .i64 2, .int .i64 mo, .int .i64 o, .int .i64 g, .int .i64 tty, .int .i64 1, .int .i64 0, .string ⟨#[]⟩, .slice none 0 0] 110)).drew) (fun a' => wpList _ _ _ _ a' ((wr.alloc (.cells #[.bool true, .int .i64 2, .int .i64 mo, .int .i64 o, .int .i64 g, .int .i64 tty, .int .i64 1, .int .i64 0, .string ⟨#[]⟩, .slice none 0 0] 110)).drew)) _ _
            generalize ((wr.alloc (.cells #[.bool true, .int .i64 2, .int .i64 mo, .int .i64 o, .int .i64 g, .int .i64 tty, .int .i64 1, .int .i64 0, .string ⟨#[]⟩, .slice none 0 0] 110)).drew) = W at *
            clear c0 b0
            have c0 := (H.out.rep.below hbw).cellT
            have x0 : W.cell? ⟨wr.heap.size, 0, none⟩ = some (.bool true) := cell_of hX 0
            have x1 : W.cell? ⟨wr.heap.size, 1, none⟩ = some (.int .i64 2) := cell_of hX 1
            have x2 : W.cell? ⟨wr.heap.size, 2, none⟩ = some (.int .i64 mo) := cell_of hX 2
            have x3 : W.cell? ⟨wr.heap.size, 3, none⟩ = some (.int .i64 o) := cell_of hX 3
            have x4 : W.cell? ⟨wr.heap.size, 4, none⟩ = some (.int .i64 g) := cell_of hX 4
            have x5 : W.cell? ⟨wr.heap.size, 5, none⟩ = some (.int .i64 tty) := cell_of hX 5
            have x6 : W.cell? ⟨wr.heap.size, 6, none⟩ = some (.int .i64 1) := cell_of hX 6
            have x7 : W.cell? ⟨wr.heap.size, 7, none⟩ = some (.int .i64 0) := cell_of hX 7
            have x8 : W.cell? ⟨wr.heap.size, 8, none⟩ = some (.string ⟨#[]⟩) := cell_of hX 8
            have x9 : W.cell? ⟨wr.heap.size, 9, none⟩ = some (.slice none 0 0) := cell_of hX 9
            have HBW := Lib.hid hbw
            have hT : W.there B (k * 10) 10 := (H.out.rep.below hbw).there hlt
            have hI : (Try.prog.info? 110).map (·.size) = some 10 := rfl
            clear hX hbw
            have n1 : k < 201 := by omega
            have n2 : (k : Int) < 201 := by omega
            simp only [List.take_succ_cons, List.take_zero, List.drop_succ_cons, List.drop_zero]
            repeat still_step
            refine wpStill_nil ?_
            have HS := Lib.hid (make_stf H.out HBW.out HBAD.out hk1 hlt HA.out HF.out)
            refine wpList_store_mid rfl 110 _ _ rfl B (k * 10) (makeR 2 mo o g tty k).cells.toArray rfl rfl hT hI (by simp [RN.cells, makeR, Value.oneCell']) ?_
            have HS2 : Hid (Stf wr t B (fun T' => IT.isMake rt T 2 mo o g tty k 0 T') (World.setCells W B (k * 10) (makeR 2 mo o g tty k).cells.toArray.toList)) := HS
            generalize World.setCells W B (k * 10) (makeR 2 mo o g tty k).cells.toArray.toList = W5 at HS2 ⊢
            clear HS hT hI
            go_wp2
            go_ret2
            exact ⟨k, 0, rfl, HS2.out⟩
        · obtain rfl : k = 201 := by omega
          have HS := Lib.hid (make_full H.out HBAD.out HF.out)
          clear hlt
          go_wp2
          go_ret2
          exact ⟨0, 9, rfl, HS.out⟩
end Go.Proofs.Ytafonmnfeibaiaa.RF
/- Insertion of names, plainly. No walk in sight. -/
namespace Go.Proofs.Ytafonmnfeibaiaa.RF
open Go.RowKit

theorem ins_sorted {A : List IT.Bytes} (h : A.Pairwise (· ≤ ·)) {x : IT.Bytes} {k : Nat} (hk : k ≤ A.length) (hd : ∀ y ∈ A.drop k, x < y) (ht : k = 0 ∨ ∃ y, A[k - 1]? = some y ∧ ¬ x < y) : (A.take k ++ x :: A.drop k).Pairwise (· ≤ ·) := by
  have h0 : (A.take k ++ A.drop k).Pairwise (· ≤ ·) := by rw [List.take_append_drop]; exact h
  obtain ⟨h1, h2, h3⟩ := List.pairwise_append.1 h0
  refine List.pairwise_append.2 ⟨h1, List.pairwise_cons.2 ⟨fun y hy => List.le_of_lt (hd y hy), h2⟩, fun a ha b hb => ?_⟩
  rcases List.mem_cons.1 hb with rfl | hb
  · rcases ht with rfl | ⟨y, hy, hyx⟩
    · simp at ha
    · have hyx' : y ≤ b := hyx
      obtain ⟨i, hi, rfl⟩ := List.mem_iff_getElem.1 ha
      rw [List.length_take] at hi
      rw [List.getElem_take]
      have hy2 := (List.getElem?_eq_some_iff.1 hy)
      obtain ⟨hkl, hy3⟩ := hy2
      by_cases e : i = k - 1
      · subst e; rw [hy3]; exact hyx'
      · have := List.pairwise_iff_getElem.1 h i (k - 1) (by omega) hkl (by omega)
        rw [hy3] at this
        exact List.le_trans this hyx'
  · exact h3 a ha b hb
theorem ins_perm {α : Type} (A : List α) (x : α) (k : Nat) : (A.take k ++ x :: A.drop k).Perm (A ++ [x]) := by
  refine (List.perm_middle).trans ?_
  rw [List.take_append_drop]
  exact (List.perm_append_singleton x A).symm
/-- What is sorted and holds the names is the names in order. -/
theorem sorted_names {A : List IT.Bytes} {l : List (IT.Bytes × Nat)} (h : A.Pairwise (· ≤ ·)) (ho : IT.Ord l) (hp : A.Perm (l.map (·.1))) : A = l.map (·.1) := by
  have e := ord_sorted ho hp
  rw [List.mergeSort_of_pairwise (h.imp fun hh => by simpa using hh)] at e
  exact e
/-- The hole moves down. -/
theorem hole_down {α : Type} {A : List α} {k : Nat} {y u : α} (hy : A[k]? = some y) : (A.take (k + 1) ++ u :: A.drop (k + 1)).set (k + 1) y = A.take k ++ y :: A.drop k := by
  obtain ⟨hk, rfl⟩ := List.getElem?_eq_some_iff.1 hy
  have h1 : (A.take (k + 1)).length = k + 1 := by rw [List.length_take]; omega
  rw [List.set_append_right _ _ (by omega), h1, Nat.sub_self, List.set_cons_zero, List.take_add_one, List.getElem?_eq_getElem hk]
  rw [List.append_assoc, List.drop_eq_getElem_cons hk]
  rfl
theorem hole_fill {α : Type} {A : List α} {k : Nat} {x u : α} (hk : k ≤ A.length) : (A.take k ++ u :: A.drop k).set k x = A.take k ++ x :: A.drop k := by
  have h1 : (A.take k).length = k := by rw [List.length_take]; omega
  rw [List.set_append_right _ _ (by omega), h1, Nat.sub_self, List.set_cons_zero]
theorem hole_at {α : Type} {A : List α} {k : Nat} {u : α} (hk : k ≤ A.length) : ∀ i, i < k → (A.take k ++ u :: A.drop k)[i]? = A[i]? := fun i hi => by
  rw [List.getElem?_append_left (by rw [List.length_take]; omega), List.getElem?_take_of_lt hi]
end Go.Proofs.Ytafonmnfeibaiaa.RF
/- The document's tree: Names. -/
namespace Go.Proofs.Ytafonmnfeibaiaa.RF
open Go.RowKit

theorem info_text : (Try.prog.info? 9).map (fun i => (i.zero, i.size, i.bytes)) = some (some (.string ByteArray.empty), 1, 16) := by kernel_rfl
/-- A row of texts of the call's own. -/
def Nr (w : World) (base : Nat) (v : Value) (A : List ByteArray) : Prop := w.ownsRow base 9 1 v A.length (A.map Value.string)
theorem Nr.below {w w' : World} {base : Nat} {v : Value} {A : List ByteArray} (h : Nr w base v A) (hb : Below w.heap.size w w') : Nr w' base v A := by
  obtain ⟨h1, ⟨h2, h3⟩ | ⟨g, cap, cur, h2, hg, hh, rest⟩⟩ := h
  · exact ⟨h1, .inl ⟨h2, h3⟩⟩
  · exact ⟨h1, .inr ⟨g, cap, cur, h2, hg, (hb.block g (lt_of_heap hh)).trans hh, rest⟩⟩
theorem Nr.lit {w : World} {base : Nat} {v : Value} {A : List ByteArray} (h : Nr w base v A) : ∃ a cap, v = .slice a A.length cap ∧ A.length ≤ cap ∧ cap ≤ maxLen ∧ ∀ (j : Nat) (x : ByteArray), A[j]? = some x → ∃ g : Nat, a = some ⟨g, 0, none⟩ ∧ base ≤ g ∧ w.cell? ⟨g, j, none⟩ = some (.string x) ∧ w.frozen? ⟨g, j, none⟩ = false ∧ ∀ y, Nr (w.setCell ⟨g, j, none⟩ (.string y)) base v (A.set j y) := by
  have h' := h
  obtain ⟨h1, h2⟩ := h
  rcases h2 with ⟨e1, e2⟩ | ⟨g, cap, cur, e1, e2, e3, e4, e5, e6, e7⟩
  · refine ⟨none, 0, by rw [e1, e2], by omega, by decide, fun j p hp => ?_⟩
    have := (List.getElem?_eq_some_iff.1 hp).1
    omega
  · refine ⟨_, cap, e1, by omega, e5, fun j x hx => ⟨g, rfl, e2, ?_, frozen_of e3 _, fun y => ?_⟩⟩
    · have hj := (List.getElem?_eq_some_iff.1 hx).1
      have f1 : (A.map Value.string)[j]? = some (Value.string x) := by rw [List.getElem?_map, hx]; rfl
      rw [cell_of e3]
      rw [← e7] at f1
      rw [List.getElem?_take_of_lt (by omega)] at f1
      simpa using f1
    · have h3 : w.ownsRow base 9 1 (.slice (some ⟨g, 0, none⟩) A.length cap) A.length (A.map Value.string) := by rw [← e1]; exact h'
      have h4 := (h3.stored j (.string y)).1
      unfold Nr
      rw [List.length_set, e1, List.map_set]
      exact h4
theorem less_iff : ∀ a b : List UInt8, Op.bytesLess a b = true ↔ a < b
  | [], [] => by simp [Op.bytesLess]
  | _ :: _, [] => by simp [Op.bytesLess]
  | [], _ :: _ => by simp [Op.bytesLess]
  | a :: x, b :: y => by
    have ih := less_iff x y
    rw [List.cons_lt_cons_iff]
    by_cases e : a = b
    · subst e; simp [Op.bytesLess, ih]
    · by_cases h : a < b
      · simp [Op.bytesLess, e, h]
      · simp [Op.bytesLess, e, h]
theorem more_yes {x y : ByteArray} (h : bs x < bs y) : (!Op.bytesLess y.toList x.toList && !y.toList == x.toList) = true := by
  rw [ByteArray.toList_eq, ByteArray.toList_eq]
  have h1 : ¬ Op.bytesLess (bs y) (bs x) = true := fun hh => List.lt_asymm h ((less_iff _ _).1 hh)
  have h2 : ¬ bs y = bs x := fun hh => List.lt_irrefl _ (hh ▸ h)
  show (!Op.bytesLess (bs y) (bs x) && !bs y == bs x) = true
  simp [h1, h2]
theorem more_no {x y : ByteArray} (h : ¬ bs x < bs y) : (!Op.bytesLess y.toList x.toList && !y.toList == x.toList) = false := by
  rw [ByteArray.toList_eq, ByteArray.toList_eq]
  show (!Op.bytesLess (bs y) (bs x) && !bs y == bs x) = false
  by_cases h1 : bs y < bs x
  · have := (less_iff (bs y) (bs x)).2 h1
    simp [this]
  · have : bs y = bs x := List.le_antisymm h h1
    simp [this]
/-- Where the loop of Names stands. -/
structure NmI (w wr : World) (v : Value) (A : List ByteArray) (P : List (ByteArray × Nat)) : Prop where
  row : Nr wr w.heap.size v A
  bel : Below w.heap.size w wr
  ord : (A.map bs).Pairwise (· ≤ ·)
  mem : A.Perm (P.map (·.1))
  nil : v = .slice none 0 0 ↔ A = []
end Go.Proofs.Ytafonmnfeibaiaa.RF
namespace Go.Proofs.Ytafonmnfeibaiaa.RF
open Go.RowKit

/-! ### the document's tree: a row of entries more, at a step of a region -/
theorem own_ge {w : World} {base : Nat} {e : TypeId} {sz n : Nat} {v : Value} {xs : List Value} (h : w.ownsRow base e sz v n xs) : ∀ k, v.ownBlock = some k → base ≤ k := by
  intro k hk
  obtain ⟨_, ⟨rfl, h0⟩ | ⟨g, cap, cur, rfl, hb, _⟩⟩ := h
  · cases hk
  · cases hk; exact hb
theorem step_app_at {P : Program} {w : World} {ops : Array Oper} {o : Oper} {a : Act} {K : Act → World → Prop} {Q : Exit → Act → World → Prop} {E : Prop} (hgd : o.guard = none) (s x : Operand) (t : TypeId)
    (ho : o.op = .call { callee := .builtin .append, args := #[s, x], argTypes := #[t, t] })
    (base : Nat) (e : TypeId) (i : TypeInfo) (z : Value) (bytes : Nat) (ht : P.underlying t = some (.slice e)) (hi : P.info? e = some i) (hz : i.zero = some z)
    (hsize : i.size = 2) (hby : i.bytes = bytes) (hzs : z.cells.size = 2)
    (v : Value) (n : Nat) (xs : List Value) (hs : a.eval s = v) (hown : w.ownsRow base e 2 v n xs)
    (ad : Addr) (m c : Nat) (news : List Value) (hx : a.eval x = .slice (some ad) m c) (hl : news.length = m * 2) (hnews : ∀ j u, news[j]? = some u → w.cell? (ad.add j) = some u) (h1 : ∀ u ∈ news, u.oneCell' = true)
    (h63 : n + m ≤ maxLen) (hbytes : (n + m) * bytes ≤ 140737488355328) (hbase : base ≤ w.heap.size)
    (h : ∀ v' w', w'.ownsRow base e 2 v' (n + m) (xs ++ news) → w.grownBy w' v.ownBlock → Below base w w' → K (a.put o.dst v') w') :
    if Region.wanted o (yielded ops a.tmps) = true then Oper.wp P o a w K Q else E := by
  have hw : Region.wanted o (yielded ops a.tmps) = true := by simp [Region.wanted, hgd]
  rw [if_pos hw]
  obtain ⟨v', w', hr, h2, h3, _⟩ := run_append_own_at (P := P) w base t o.type e i z 2 bytes ht hi hz hsize hby hzs (by decide) v n xs hown ad m c news hl hnews h1 h63 hbytes hbase
  unfold Oper.wp execOp
  simp only [ho, resolve, invoke, builtin, Sem.run_bind, Sem.run_pure, Result.andThen_ok, List.map_toArray, List.map_cons, List.map_nil, hs, hx, hr]
  exact h v' w' h2 h3 ((Below.refl _ _).grown h3 hbase (own_ge hown))
theorem own_slice {w : World} {base : Nat} {e : TypeId} {sz n : Nat} {v : Value} {xs : List Value} (h : w.ownsRow base e sz v n xs) : ∃ a n' cap, v = .slice a n' cap := by
  obtain ⟨_, ⟨rfl, h0⟩ | ⟨g, cap, cur, rfl, hb, _⟩⟩ := h
  · exact ⟨none, 0, 0, rfl⟩
  · exact ⟨_, _, _, rfl⟩
theorem flatE_take : ∀ (l : List (ByteArray × Nat)) (i : Nat), flatE (l.take i) = (flatE l).take (i * 2)
  | _, 0 => by simp [flatE]
  | [], i + 1 => by simp [flatE]
  | p :: l, i + 1 => by
    have ih := flatE_take l i
    unfold flatE at ih ⊢
    rw [List.take_succ_cons, List.flatMap_cons, List.flatMap_cons, ih, show (i + 1) * 2 = i * 2 + 1 + 1 by omega]
    rfl
theorem flatE_drop : ∀ (l : List (ByteArray × Nat)) (i : Nat), flatE (l.drop i) = (flatE l).drop (i * 2)
  | _, 0 => by simp [flatE]
  | [], i + 1 => by simp [flatE]
  | p :: l, i + 1 => by
    have ih := flatE_drop l i
    unfold flatE at ih ⊢
    rw [List.drop_succ_cons, List.flatMap_cons, ih, show (i + 1) * 2 = i * 2 + 1 + 1 by omega]
    rfl
/-- An owned row is an inode's entries. -/
theorem ent_of {w : World} {base n : Nat} {v : Value} {xs : List Value} (h : w.ownsRow base 126 2 v n xs) (m : RN) (l : List (ByteArray × Nat)) (hn : n = l.length) (hx : xs = flatE l) : EntAt w { m with sl := v, ents := l } := by
  subst hn; subst hx
  obtain ⟨h1, h2⟩ := h
  refine ⟨h1, ?_⟩
  rcases h2 with h2 | ⟨g, cap, cur, e1, _, e3⟩
  · exact .inl h2
  · exact .inr ⟨g, cap, cur, e1, Nat.zero_le _, e3⟩
theorem info_entry : (Try.prog.info? 126).map (fun i => (i.zero, i.size, i.bytes)) = some (some (.agg #[.string ⟨#[]⟩, .int .i64 0]), 2, 24) := by kernel_rfl
theorem own_empty (w : World) (e : TypeId) (base B : Nat) (hB : w.heap.size = B) (hb : base ≤ w.heap.size) : (w.alloc (.cells #[] e)).ownsRow base e 2 (.slice (some ⟨B, 0, none⟩) 0 0) 0 [] :=
  hB ▸ ⟨rfl, .inr ⟨w.heap.size, 0, #[], rfl, hb, alloc_heap _ _, Nat.le_refl _, by decide, rfl, rfl⟩⟩
theorem cells_take {w : World} {n : RN} (h : EntAt w n) {g cap : Nat} (hs : n.sl = .slice (some ⟨g, 0, none⟩) n.ents.length cap) (i : Nat) : ∀ j u, ((flatE n.ents).drop i)[j]? = some u → w.cell? (Addr.add ⟨g, i, none⟩ j) = some u := by
  obtain ⟨h1, h2⟩ := h
  intro j u hu
  rw [List.getElem?_drop] at hu
  have ha : Addr.add ⟨g, i, none⟩ j = ⟨g, i + j, none⟩ := by
    by_cases h : j = 0
    · subst h; simp [Addr.add]
    · simp [Addr.add, h]
  rw [ha]
  rcases h2 with ⟨e1, e2⟩ | ⟨g2, cap2, cur, e1, e2, e3, e4, e5, e6, e7⟩
  · rw [hs] at e1; cases e1
  · rw [hs] at e1
    obtain ⟨rfl, rfl⟩ : g = g2 ∧ cap = cap2 := by
      have := Value.slice.inj e1
      exact ⟨by have := this.1; simp at this; exact this, this.2.2⟩
    rw [cell_of e3]
    rw [← e7] at hu
    have hlt : i + j < n.ents.length * 2 := by
      have := (List.getElem?_eq_some_iff.1 hu).1
      rw [List.length_take] at this; omega
    rw [List.getElem?_take_of_lt hlt] at hu
    simpa using hu
/-- What lies at a place. -/
def valAt (W : World) (a : Addr) : Value := (W.cell? a).getD undef
theorem valAt_some {W : World} {a : Addr} {v : Value} (h : W.cell? a = some v) : W.cell? a = some (valAt W a) := by unfold valAt; rw [h]; rfl
/-- While a region goes: block B alone may be another one; one of its cells may be written. -/
def Sx (w : World) (t B off : Nat) (W : World) : Prop := Mo B w W ∧ W.cell? ⟨t, 0, none⟩ = some (.slice (some ⟨B, 0, none⟩) 201 201) ∧ W.cell? ⟨B, off, none⟩ = some (valAt W ⟨B, off, none⟩) ∧ W.frozen? ⟨B, off, none⟩ = false
theorem Mo.grow {B : Nat} {w W W' : World} (h : Mo B w W) (hb : Below w.heap.size W W') : Mo B w W' :=
  ⟨hb.os.trans h.os, hb.tape.trans h.tape, hb.output.trans h.output, Nat.le_trans h.size hb.size, fun k hk hB => (hb.block k hk).trans (h.block k hk hB)⟩
theorem Sx.start {w : World} {t B : Nat} {G : Gt} (h : Rf w t B G) {off : Nat} {v : Value} (hc : w.cell? ⟨B, off, none⟩ = some v) : Sx w t B off w := ⟨Mo.refl _ _, h.cellT, valAt_some hc, h.frozen off⟩
theorem Sx.below {w W W' : World} {t B off : Nat} (hb : Below w.heap.size W W') (ht : t < w.heap.size) (hB : B < w.heap.size) (h : Sx w t B off W) : Sx w t B off W' := by
  obtain ⟨h1, h2, h3, h4⟩ := h
  refine ⟨h1.grow hb, ?_, ?_, ?_⟩
  · rw [hb.cell (p := ⟨t, 0, none⟩) ht]; exact h2
  · exact valAt_some (by rw [hb.cell (p := ⟨B, off, none⟩) hB]; exact h3)
  · rw [hb.frozen (p := ⟨B, off, none⟩) hB]; exact h4
theorem Sx.set {w W : World} {t B off : Nat} (hne : t ≠ B) (h : Sx w t B off W) (v : Value) : Sx w t B off (W.setCell ⟨B, off, none⟩ v) := by
  obtain ⟨h1, h2, h3, h4⟩ := h
  refine ⟨h1.set _, ?_, valAt_some (v := v) ?_, ?_⟩
  · rw [World.cell?_setCell_far _ _ _ _ (Ne.symm hne)]; exact h2
  · exact World.cell?_setCell_same _ _ _ h3
  · rw [World.frozen?_setCell]; exact h4
/-- An entry is taken away. -/
def WoP (w : World) (t B : Nat) (G : Gt) (k i : Nat) (w' : World) : Prop := ∃ v, Rf w' t B (updG G k { G k with sl := v, ents := (G k).ents.take i ++ (G k).ents.drop (i + 1) }) ∧ Mo B w w'
set_option maxRecDepth 100000 in
set_option maxHeartbeats 4000000 in
theorem rf_without {w : World} {t B : Nat} {G : Gt} (h : Rf w t B G) (k i : Nat) (hk : k ≤ 200) (hi : i < (G k).ents.length) (h40 : (G k).ents.length ≤ 40) :
    Calls Try.prog 88 #[.pointer (some ⟨t, 0, none⟩), .int .i64 (k : Int), .int .i64 (i : Int)] w fun e w' => e = .returned (.tuple #[]) ∧ WoP w t B G k i w' := by
  have c0 := h.cellT
  have b9 := h.c9 k hk
  have hent := h.ents k hk
  obtain ⟨a, cap, hs, hl1, hl2, hl3⟩ := hent.lit
  obtain ⟨g, rfl, _, _⟩ := hl3 i _ (List.getElem?_eq_getElem hi)
  rw [hs] at b9
  have H := Lib.hid h
  have HENT := Lib.hid hent
  have HSL := Lib.hid hs
  have hcap : cap ≤ 9223372036854775807 := by unfold maxLen at hl2; omega
  have hBL := h.ltB
  have hTL := h.ltT
  obtain ⟨E, hE⟩ : ∃ E, E = (G k).ents := ⟨_, rfl⟩
  rw [← hE] at hi h40 hl1 b9
  obtain ⟨L, hL⟩ : ∃ L, L = E.length := ⟨_, rfl⟩
  rw [← hL] at hi h40 hl1 b9
  have HE := Lib.hid hE
  have HL := Lib.hid hL
  have n1 : k < 201 := by omega
  have n2 : (k : Int) < 201 := by omega
  have i1 : (i : Int) + 1 ≤ L := by omega
  have i2 : (i : Int) ≤ cap := by omega
  have i3 : (L : Int) ≤ cap := by omega
  have s9 := h.frozen (k * 10 + 9)
  obtain ⟨i0, hi0, hz0, hz1, hz2⟩ := info_parts info_entry
  have KP : ∀ W', Below w.heap.size w W' → W'.cell? ⟨t, 0, none⟩ = some (.slice (some ⟨B, 0, none⟩) 201 201) ∧ W'.cell? ⟨B, k * 10 + 9, none⟩ = some (.slice (some ⟨g, 0, none⟩) L cap) ∧ W'.frozen? ⟨B, k * 10 + 9, none⟩ = false := fun W' hb => ⟨(H.out.below hb).cellT, by rw [(H.out.below hb).c9 k hk, HSL.out, HL.out, HE.out], (H.out.below hb).frozen _⟩
  clear h hent hs hl2 hl3 hE hL
  have HKP := Lib.hid KP
  clear KP
  have HN1 : Hid (∀ W', Mo B w W' → ∀ j u, ((flatE E).take (i * 2))[j]? = some u → W'.cell? (Addr.add ⟨g, 0, none⟩ j) = some u) := Lib.hid (fun W' hb j u hu => by
    have h2 := cells_take (HENT.out.same (w' := W') fun g C f hg => hb.block g (lt_of_heap hg) (fun e => by subst e; have := hg.symm.trans H.out.row; simp at this)) HSL.out 0 j u
    rw [← HE.out, List.drop_zero] at h2
    refine h2 ?_
    rw [List.getElem?_take] at hu
    split at hu
    · exact hu
    · cases hu)
  have HN2 : Hid (∀ W', Mo B w W' → ∀ j u, ((flatE E).drop ((i + 1) * 2))[j]? = some u → W'.cell? (Addr.add ⟨g, (i + 1) * 2, none⟩ j) = some u) := Lib.hid (fun W' hb j u hu => by
    have h2 := cells_take (HENT.out.same (w' := W') fun g C f hg => hb.block g (lt_of_heap hg) (fun e => by subst e; have := hg.symm.trans H.out.row; simp at this)) HSL.out ((i + 1) * 2) j u
    rw [← HE.out] at h2
    exact h2 hu)
  by_cases hic : i + 1 = cap
  · have hnil : (flatE E).drop ((i + 1) * 2) = [] := List.drop_of_length_le (by rw [flatE_len, ← HL.out]; omega)
    have HNIL := Lib.hid hnil
    obtain rfl : L = i + 1 := by omega
    obtain rfl : cap = i + 1 := by omega
    have w1 : IntKind.i64.wrap ((i : Int) + 1) = (i : Int) + 1 := IntWalk.i64_in _ (by omega)
    have w2 : (0 : Int) ≤ (i : Int) + 1 := by omega
    have w3 : ((i : Int) + 1).toNat = i + 1 := by omega
    have w4 : (0 : Int) ≤ (i : Int) := by omega
    have w5 : (i : Int) ≤ (i : Int) + 1 := by omega
    clear hnil hic i1 i2 i3
    go_enter Try.func88, Try.ntmps88
    go_wp2_with fail
    have hTB := H.out.ne
    go_region_held3 (fun W' => Mo B w W' ∧ W'.cell? ⟨t, 0, none⟩ = some (.slice (some ⟨B, 0, none⟩) 201 201) ∧ W'.cell? ⟨B, k * 10 + 9, none⟩ = some (valAt W' ⟨B, k * 10 + 9, none⟩) ∧ W'.frozen? ⟨B, k * 10 + 9, none⟩ = false)
      (first
        | exact Sx.below (Below.refl _ _).drew hTL hBL (Sx.start H.out (H.out.c9 k hk))
        | exact Sx.below hbel8 hTL hBL ‹Mo B w _ ∧ _›
        | exact Sx.below hbel5 hTL hBL ‹Mo B w _ ∧ _›
        | exact Sx.set hTB ‹Mo B w _ ∧ _› _
        | exact Sx.below ((Below.refl _ _).alloc (‹Mo B w _ ∧ _›).1.size _) hTL hBL ‹Mo B w _ ∧ _›)
      (first
        | (refine step_app_at rfl (.tmp 20) (.tmp 23) 108 rfl w.heap.size 126 i0 (.agg #[.string ⟨#[]⟩, .int .i64 0]) 24 Try.underlying108 hi0 hz0 hz1 hz2 rfl (.slice (some ⟨w.heap.size, 0, none⟩) 0 0) 0 [] ?_ ?_ ⟨g, 0, none⟩ i (i + 1) ((flatE E).take (i * 2)) ?_ ?_ ?_ ?_ ?_ ?_ ?_ ?_
           · simp [Act.eval, Act.put]; done
           · exact (own_empty w _ _ _ rfl (Nat.le_refl _)).drew
           · simp [Act.eval, Act.put]; done
           · exact by rw [List.length_take, flatE_len, ← HL.out]; omega
           · exact HN1.out _ (‹Mo B w _ ∧ _›).1
           · exact fun u hu => flatE_one _ u (List.mem_of_mem_take hu)
           · unfold maxLen; omega
           · omega
           · exact (‹Mo B w _ ∧ _›).1.size
           intro v5 w5 hown5 hgrow5 hbel5
           have hB5 : Below w.heap.size w w5 := Below.trans (((Below.refl _ _).alloc (Nat.le_refl _) _).drew) hbel5)
        | (refine step_app_at rfl (.tmp 24) (.tmp 28) 108 rfl w.heap.size 126 i0 (.agg #[.string ⟨#[]⟩, .int .i64 0]) 24 Try.underlying108 hi0 hz0 hz1 hz2 rfl v5 (0 + i) ([] ++ (flatE E).take (i * 2)) ?_ ?_ ⟨g, 0, none⟩ ((i + 1) - (i + 1)) ((i + 1) - (i + 1)) ((flatE E).drop ((i + 1) * 2)) ?_ ?_ ?_ ?_ ?_ ?_ ?_ ?_
           · simp [Act.eval, Act.put]; done
           · exact hown5
           · simp [Act.eval, Act.put]; done
           · exact by rw [List.length_drop, flatE_len, ← HL.out]; omega
           · exact fun j u hu => by rw [HNIL.out] at hu; cases hu
           · exact fun u hu => flatE_one _ u (List.mem_of_mem_drop hu)
           · unfold maxLen; omega
           · omega
           · exact (‹Mo B w _ ∧ _›).1.size
           intro v8 w8 hown8 hgrow8 hbel8
           have hB8 : Below w.heap.size w w8 := hB5.trans hbel8
           obtain ⟨a8, n8, c8, rfl⟩ := own_slice hown8))
    all_goals
      have hRF := Lib.hid ((H.out.below hB8).set hk (show 9 < 10 by omega) (.slice a8 n8 c8) { G k with sl := .slice a8 n8 c8, ents := E.take i ++ E.drop (i + 1) } rfl (ent_of hown8 (G k) (E.take i ++ E.drop (i + 1)) (by rw [List.length_append, List.length_take, List.length_drop, ← HL.out]; omega) (by rw [flatE_app, flatE_take, flatE_drop, List.nil_append])))
      have hMO := Lib.hid ((Mo.of (b := B) hB8).set (i := k * 10 + 9) (.slice a8 n8 c8))
      clear hown8 hgrow8 hbel8 hB8 hown5 hgrow5 hbel5 hB5
      go_wp2
      refine bodyPost_end (results_none rfl _ _ _) rfl ⟨rfl, .slice a8 n8 c8, ?_, ?_⟩
      · rw [← HE.out]; exact hRF.out
      · exact hMO.out
  · have j1 : (i : Int) + 1 < cap := by omega
    have j2 : i + 1 < cap := by omega
    have j3 : ¬ cap = i + 1 := by omega
    have w1 : IntKind.i64.wrap ((i : Int) + 1) = (i : Int) + 1 := IntWalk.i64_in _ (by omega)
    have w2 : (0 : Int) ≤ (i : Int) + 1 := by omega
    have w3 : ((i : Int) + 1).toNat = i + 1 := by omega
    have w4 : (0 : Int) ≤ (i : Int) := by omega
    clear hic
    go_enter Try.func88, Try.ntmps88
    go_wp2_with fail
    have hTB := H.out.ne
    go_region_held3 (fun W' => Mo B w W' ∧ W'.cell? ⟨t, 0, none⟩ = some (.slice (some ⟨B, 0, none⟩) 201 201) ∧ W'.cell? ⟨B, k * 10 + 9, none⟩ = some (valAt W' ⟨B, k * 10 + 9, none⟩) ∧ W'.frozen? ⟨B, k * 10 + 9, none⟩ = false)
      (first
        | exact Sx.below (Below.refl _ _).drew hTL hBL (Sx.start H.out (H.out.c9 k hk))
        | exact Sx.below hbel8 hTL hBL ‹Mo B w _ ∧ _›
        | exact Sx.below hbel5 hTL hBL ‹Mo B w _ ∧ _›
        | exact Sx.set hTB ‹Mo B w _ ∧ _› _
        | exact Sx.below ((Below.refl _ _).alloc (‹Mo B w _ ∧ _›).1.size _) hTL hBL ‹Mo B w _ ∧ _›)
      (first
        | (refine step_app_at rfl (.tmp 20) (.tmp 23) 108 rfl w.heap.size 126 i0 (.agg #[.string ⟨#[]⟩, .int .i64 0]) 24 Try.underlying108 hi0 hz0 hz1 hz2 rfl (.slice (some ⟨w.heap.size, 0, none⟩) 0 0) 0 [] ?_ ?_ ⟨g, 0, none⟩ i cap ((flatE E).take (i * 2)) ?_ ?_ ?_ ?_ ?_ ?_ ?_ ?_
           · simp [Act.eval, Act.put]; done
           · exact (own_empty w _ _ _ rfl (Nat.le_refl _)).drew
           · simp [Act.eval, Act.put]; done
           · exact by rw [List.length_take, flatE_len, ← HL.out]; omega
           · exact HN1.out _ (‹Mo B w _ ∧ _›).1
           · exact fun u hu => flatE_one _ u (List.mem_of_mem_take hu)
           · unfold maxLen; omega
           · omega
           · exact (‹Mo B w _ ∧ _›).1.size
           intro v5 w5 hown5 hgrow5 hbel5
           have hB5 : Below w.heap.size w w5 := Below.trans (((Below.refl _ _).alloc (Nat.le_refl _) _).drew) hbel5)
        | (refine step_app_at rfl (.tmp 24) (.tmp 28) 108 rfl w.heap.size 126 i0 (.agg #[.string ⟨#[]⟩, .int .i64 0]) 24 Try.underlying108 hi0 hz0 hz1 hz2 rfl v5 (0 + i) ([] ++ (flatE E).take (i * 2)) ?_ ?_ ⟨g, (i + 1) * 2, none⟩ (L - (i + 1)) (cap - (i + 1)) ((flatE E).drop ((i + 1) * 2)) ?_ ?_ ?_ ?_ ?_ ?_ ?_ ?_
           · simp [Act.eval, Act.put]; done
           · exact hown5
           · simp [Act.eval, Act.put]; done
           · exact by rw [List.length_drop, flatE_len, ← HL.out]; omega
           · exact HN2.out _ (‹Mo B w _ ∧ _›).1
           · exact fun u hu => flatE_one _ u (List.mem_of_mem_drop hu)
           · unfold maxLen; omega
           · omega
           · exact (‹Mo B w _ ∧ _›).1.size
           intro v8 w8 hown8 hgrow8 hbel8
           have hB8 : Below w.heap.size w w8 := hB5.trans hbel8
           obtain ⟨a8, n8, c8, rfl⟩ := own_slice hown8))
    all_goals
      have hRF := Lib.hid ((H.out.below hB8).set hk (show 9 < 10 by omega) (.slice a8 n8 c8) { G k with sl := .slice a8 n8 c8, ents := E.take i ++ E.drop (i + 1) } rfl (ent_of hown8 (G k) (E.take i ++ E.drop (i + 1)) (by rw [List.length_append, List.length_take, List.length_drop, ← HL.out]; omega) (by rw [flatE_app, flatE_take, flatE_drop, List.nil_append])))
      have hMO := Lib.hid ((Mo.of (b := B) hB8).set (i := k * 10 + 9) (.slice a8 n8 c8))
      clear hown8 hgrow8 hbel8 hB8 hown5 hgrow5 hbel5 hB5
      go_wp2
      refine bodyPost_end (results_none rfl _ _ _) rfl ⟨rfl, .slice a8 n8 c8, ?_, ?_⟩
      · rw [← HE.out]; exact hRF.out
      · exact hMO.out
end Go.Proofs.Ytafonmnfeibaiaa.RF
/- The document's tree: Names, the walk. UNDER WAY. -/
namespace Go.Proofs.Ytafonmnfeibaiaa.RF
open Go.RowKit

theorem one_new (W : World) : ∀ (j : Nat) (u : Value), [Value.string ByteArray.empty][j]? = some u → (W.alloc (.cells #[.string ByteArray.empty] 9)).cell? ((⟨W.heap.size, 0, none⟩ : Addr).add j) = some u
  | 0, u, h => (cell_of (alloc_heap W (.cells #[.string ByteArray.empty] 9)) 0).trans h
  | _ + 1, u, h => by cases h
theorem NmI.step {w wr W : World} {v v0 : Value} {A : List ByteArray} {E : List (ByteArray × Nat)} {i k : Nat} {p : ByteArray × Nat} {x : ByteArray} (h : NmI w wr v0 A (E.take i)) (hrow : Nr W w.heap.size v (A.take k ++ x :: A.drop k)) (hb : Below w.heap.size w W) (hp : E[i]? = some p) (hx : p.1 = x) (hk : k ≤ A.length) (hd : ∀ y ∈ A.drop k, bs x < bs y) (ht : k = 0 ∨ ∃ y, A[k - 1]? = some y ∧ ¬ bs x < bs y) (hv : v ≠ .slice none 0 0) : NmI w W v (A.take k ++ x :: A.drop k) (E.take (i + 1)) where
  row := hrow
  bel := hb
  ord := by
    rw [List.map_append, List.map_cons, List.map_take, List.map_drop]
    refine ins_sorted h.ord (by rw [List.length_map]; exact hk) (fun y hy => ?_) ?_
    · rw [← List.map_drop] at hy
      obtain ⟨z, hz, rfl⟩ := List.mem_map.1 hy
      exact hd z hz
    · rcases ht with e | ⟨y, e1, e2⟩
      · exact .inl e
      · exact .inr ⟨bs y, by rw [List.getElem?_map, e1]; rfl, e2⟩
  mem := by
    refine (ins_perm A x k).trans ?_
    rw [List.take_add_one, hp, List.map_append]
    subst hx
    exact List.Perm.append_right _ h.mem
  nil := ⟨fun e => absurd e hv, fun e => by simp at e⟩
set_option maxRecDepth 100000 in
set_option maxHeartbeats 4000000 in
theorem rf_names_some {w : World} {t B : Nat} {G : Gt} {T : IT.Tr} (h : Trf w t B G T) {k : Nat} {m : IT.Nd} (hm : T k = some m) :
    Calls Try.prog 70 #[.pointer (some ⟨t, 0, none⟩), .int .i64 (k : Int)] w fun e w' => ∃ v A, e = .returned v ∧ NmI w w' v A (G k).ents := by
  have HI := Lib.hid (rf_is_yes h (k : Int) hm)
  obtain ⟨hk1, hk2⟩ := h.snd.1.rng k m hm
  have c0 := h.rep.cellT
  have b9 := h.rep.c9 k hk2
  obtain ⟨a, cap, hs, hl1, hl2, hl3⟩ := (h.rep.ents k hk2).lit
  rw [hs] at b9
  have hfew := h.ties.few h.snd.1 k hk2
  have HL3 := Lib.hid hl3
  obtain ⟨i0, hi, hz0, hz1, hz2⟩ := info_parts info_text
  clear h hm hs hl3
  generalize (G k).ents = E at *
  obtain ⟨L, hL⟩ : ∃ L, E.length = L := ⟨_, rfl⟩
  rw [hL] at b9 hl1 hfew
  have HLL := Lib.hid hL
  have H0 : Hid (NmI w w (.slice none 0 0) [] (E.take 0)) := Lib.hid ⟨World.ownsRow_nil w w.heap.size 9 1, Below.refl _ _, List.Pairwise.nil, List.Perm.refl _, by simp⟩
  clear hL
  go_enter Try.func70, Try.ntmps70
  go_wp2_with fail
  refine HI.out.mono ?_
  rintro e wz ⟨rfl, rfl⟩
  go_wp2_with fail
  go_loopg [6, 8] L (fun g ov iv wr => ∃ (i : Nat) (A : List ByteArray), iv = .int .i64 (i : Int) ∧ i + g = L ∧ Hid (NmI w wr ov A (E.take i)))
  case atStart => exact ⟨0, [], rfl, by omega, H0⟩
  case round =>
    clear H0
    obtain ⟨i, A, rfl, hig, HN⟩ := hrel
    by_cases hil : i < L
    · obtain ⟨og, rfl⟩ : ∃ og, gk = og + 1 := ⟨gk - 1, by omega⟩
      have hil2 : (i : Int) < L := by omega
      obtain ⟨p, hp⟩ : ∃ p, E[i]? = some p := ⟨E[i]'(by rw [HLL.out]; exact hil), List.getElem?_eq_getElem _⟩
      obtain ⟨ge, rfl, hce, _⟩ := HL3.out i p hp
      obtain ⟨oa, ocap, rfl, ho1, ho2, _⟩ := HN.out.row.lit
      have hA : A.length = i := by
        have := HN.out.mem.length_eq
        rw [List.length_map, List.length_take, HLL.out] at this
        omega
      go_wp2_with (at_builtin; refine wpList_append_own _ rfl _ _ 22 rfl w.heap.size 9 i0 (.string ByteArray.empty) 1 16 Try.underlying22 hi hz0 hz1 hz2 rfl (by decide) _ _ _ rfl (HN.out.row.below ((Below.refl _ _).alloc (Nat.le_refl _) _)) ⟨_, 0, none⟩ 1 1 [.string ByteArray.empty] rfl rfl (one_new _) (by simp [Value.oneCell']) (by unfold maxLen; omega) (by omega) (by have := HN.out.bel.size; rw [alloc_size]; omega) ?_; intro v2 w2 hown2 hgrow2 hnil2)
      have hn2 : Nr w2 w.heap.size v2 (A.take i ++ ByteArray.empty :: A.drop i) := by
        have e1 : A.take i ++ ByteArray.empty :: A.drop i = A ++ [ByteArray.empty] := by rw [← hA, List.take_length, List.drop_length]
        unfold Nr
        rw [e1, List.length_append, List.map_append]
        exact hown2
      have hb2 : Below w.heap.size w w2 := (HN.out.bel.alloc HN.out.bel.size _).trans ((Below.refl _ _).grown hgrow2 (by have := HN.out.bel.size; rw [alloc_size]; omega) (own_ge HN.out.row))
      obtain ⟨a2, cap2, rfl, g1, g2, _⟩ := hn2.lit
      have hlen2 : (A.take i ++ ByteArray.empty :: A.drop i).length = i + 1 := by simp; omega
      rw [hlen2] at g1 hn2 ⊢
      have HI2 : Hid (Nr w2 w.heap.size (.slice a2 (i + 1) cap2) (A.take i ++ ByteArray.empty :: A.drop i) ∧ Below w.heap.size w w2 ∧ ∀ y ∈ A.drop i, bs p.1 < bs y) := Lib.hid ⟨hn2, hb2, by rw [← hA, List.drop_length]; simp⟩
      have HP := Lib.hid hp
      have HCE : Hid (∀ W, Below w.heap.size w W → W.cell? ⟨ge, i * 2, none⟩ = some (.string p.1)) := Lib.hid (fun W hb => (hb.cell (p := ⟨ge, i * 2, none⟩) (World.block_lt_of_cell? w ⟨ge, i * 2, none⟩ hce)).trans hce)
      have hv2 : Value.slice a2 (i + 1) cap2 ≠ .slice none 0 0 := by simp
      have HV := Lib.hid hv2
      clear hv2
      clear hp hown2 hgrow2 hnil2 hn2 hb2 hlen2 hce
      obtain ⟨x, hx⟩ : ∃ x, p.1 = x := ⟨_, rfl⟩
      rw [hx] at HCE HI2
      have HX := Lib.hid hx
      clear hx
      go_wp2_with fail
      go_loopg [9] i (fun g kv wr => ∃ (j : Nat) (u : ByteArray), kv = .int .i64 (j : Int) ∧ g = j ∧ j ≤ i ∧ Hid (Nr wr w.heap.size (.slice a2 (i + 1) cap2) (A.take j ++ u :: A.drop j) ∧ Below w.heap.size w wr ∧ ∀ y ∈ A.drop j, bs x < bs y))
      case atStart => exact ⟨i, _, rfl, rfl, Nat.le_refl _, HI2⟩
      case round =>
        clear HI2
        obtain ⟨j0, u, rfl, hgj, hji, HI2⟩ := hrel
        have hce : wr.cell? ⟨ge, i * 2, none⟩ = some (.string x) := HCE.out _ HI2.out.2.1
        obtain rfl | ⟨j, rfl⟩ : j0 = 0 ∨ ∃ j, j0 = j + 1 := by cases j0; exact .inl rfl; exact .inr ⟨_, rfl⟩
        · have HIO : Hid (∀ W : World, Nr W w.heap.size (.slice a2 (i + 1) cap2) (A.take 0 ++ u :: A.drop 0) → ∃ go, a2 = some ⟨go, 0, none⟩ ∧ w.heap.size ≤ go ∧ W.cell? ⟨go, 0, none⟩ = some (.string u) ∧ W.frozen? ⟨go, 0, none⟩ = false ∧ Nr (W.setCell ⟨go, 0, none⟩ (.string x)) w.heap.size (.slice a2 (i + 1) cap2) (A.take 0 ++ x :: A.drop 0)) := Lib.hid (fun W hW => by
            obtain ⟨a3, cap3, e3, _, _, hl4⟩ := hW.lit
            obtain ⟨go, ha3, hgo, hcu, hfu, hst⟩ := hl4 0 u rfl
            have e4 : a2 = a3 := by simp only [Value.slice.injEq] at e3; exact e3.1
            refine ⟨go, e4.trans ha3, hgo, hcu, hfu, ?_⟩
            have := hst x; rw [hole_fill (Nat.zero_le _)] at this; exact this)
          obtain ⟨go, rfl, hgo, _, _, _⟩ := HIO.out wr HI2.out.1
          go_upto_region 11 with fail
          go_quiet (fail)
          rename_i nq
          have hrow := HI2.out.1.below (belowDrewN (Below.refl wr.heap.size wr) nq)
          have hbl := HI2.out.2.1.trans ((belowDrewN (Below.refl wr.heap.size wr) nq).mono HI2.out.2.1.size)
          clear hce
          generalize wr.drewN nq = W at *
          have hce := HCE.out _ hbl
          obtain ⟨go', e5, hgo', hcu, hfu, hn1⟩ := HIO.out W hrow
          obtain rfl : go = go' := by simpa using e5
          have HN1 := Lib.hid (HN.out.step (k := 0) hn1 (hbl.setCell hgo _) HP.out HX.out (Nat.zero_le _) HI2.out.2.2 (.inl rfl) HV.out)
          have hi1 : (0 : Int) < (i : Int) + 1 := by omega
          clear hrow hbl hn1
          go_wp2
          go_roundg og
          case measure => omega
          case rel => exact ⟨i + 1, _, by go_num, by omega, HN1⟩
        · obtain rfl : gk = j + 1 := hgj
          obtain ⟨y, hy⟩ : ∃ y, A[j]? = some y := ⟨A[j]'(by omega), List.getElem?_eq_getElem _⟩
          have HIO : Hid (∀ W : World, Nr W w.heap.size (.slice a2 (i + 1) cap2) (A.take (j + 1) ++ u :: A.drop (j + 1)) → ∃ go, a2 = some ⟨go, 0, none⟩ ∧ w.heap.size ≤ go ∧ W.cell? ⟨go, j, none⟩ = some (.string y) ∧ W.cell? ⟨go, j + 1, none⟩ = some (.string u) ∧ W.frozen? ⟨go, j + 1, none⟩ = false ∧ Nr (W.setCell ⟨go, j + 1, none⟩ (.string y)) w.heap.size (.slice a2 (i + 1) cap2) (A.take j ++ y :: A.drop j) ∧ Nr (W.setCell ⟨go, j + 1, none⟩ (.string x)) w.heap.size (.slice a2 (i + 1) cap2) (A.take (j + 1) ++ x :: A.drop (j + 1))) := Lib.hid (fun W hW => by
            obtain ⟨a3, cap3, e3, _, _, hl4⟩ := hW.lit
            obtain ⟨go, ha3, hgo, hcy, _, _⟩ := hl4 j y (by rw [hole_at (by omega) j (by omega)]; exact hy)
            obtain ⟨go2, ha4, _, hcu, hfu, hst⟩ := hl4 (j + 1) u (by rw [List.getElem?_append_right (by rw [List.length_take]; omega), List.length_take, Nat.min_eq_left (by omega), Nat.sub_self]; rfl)
            obtain rfl : go = go2 := by rw [ha3] at ha4; simpa using ha4
            have e4 : a2 = a3 := by simp only [Value.slice.injEq] at e3; exact e3.1
            refine ⟨go, e4.trans ha3, hgo, hcy, hcu, hfu, ?_, ?_⟩
            · have := hst y; rw [hole_down hy] at this; exact this
            · have := hst x; rw [hole_fill (by omega)] at this; exact this)
          obtain ⟨go, rfl, hgo, hcy, _, _, _, _⟩ := HIO.out wr HI2.out.1
          have hj1 : (0 : Int) < (j : Int) + 1 := by omega
          have hj2 : (j : Int) < (i : Int) + 1 := by omega
          have HY := Lib.hid hy
          clear hy
          by_cases hc : bs x < bs y
          · have hz := more_yes hc
            have HC := Lib.hid hc
            clear hc
            go_upto_region 11 with fail
            go_quiet (fail)
            rename_i nq
            have hrow := HI2.out.1.below (belowDrewN (Below.refl wr.heap.size wr) nq)
            have hbl := HI2.out.2.1.trans ((belowDrewN (Below.refl wr.heap.size wr) nq).mono HI2.out.2.1.size)
            clear hcy hce
            generalize wr.drewN nq = W at *
            obtain ⟨go', e5, hgo', hcy, hcu, hfu, hn1, _⟩ := HIO.out W hrow
            obtain rfl : go = go' := by simpa using e5
            have HN1 : Hid (Nr (W.setCell ⟨go, j + 1, none⟩ (.string y)) w.heap.size (.slice (some ⟨go, 0, none⟩) (i + 1) cap2) (A.take j ++ y :: A.drop j) ∧ Below w.heap.size w (W.setCell ⟨go, j + 1, none⟩ (.string y)) ∧ ∀ z ∈ A.drop j, bs x < bs z) := Lib.hid ⟨hn1, hbl.setCell hgo _, fun z hz => by
              rw [List.drop_eq_getElem_cons (by omega)] at hz
              rcases List.mem_cons.1 hz with rfl | hz
              · have := (List.getElem?_eq_some_iff.1 HY.out).2; rw [this]; exact HC.out
              · exact HI2.out.2.2 z hz⟩
            clear hrow hbl hn1
            go_wp2
            go_roundg j
            case measure => omega
            case rel => exact ⟨j, y, by go_num, rfl, by omega, HN1⟩
          · have hz := more_no hc
            have HC := Lib.hid hc
            clear hc
            go_upto_region 11 with fail
            go_quiet (fail)
            rename_i nq
            have hrow := HI2.out.1.below (belowDrewN (Below.refl wr.heap.size wr) nq)
            have hbl := HI2.out.2.1.trans ((belowDrewN (Below.refl wr.heap.size wr) nq).mono HI2.out.2.1.size)
            clear hcy hce
            generalize wr.drewN nq = W at *
            have hce := HCE.out _ hbl
            obtain ⟨go', e5, hgo', _, hcu, hfu, _, hn1⟩ := HIO.out W hrow
            obtain rfl : go = go' := by simpa using e5
            have HN1 := Lib.hid (HN.out.step (k := j + 1) hn1 (hbl.setCell hgo _) HP.out HX.out (by omega) HI2.out.2.2 (.inr ⟨y, HY.out, HC.out⟩) HV.out)
            clear hrow hbl hn1
            go_wp2
            go_roundg og
            case measure => omega
            case rel => exact ⟨i + 1, _, by go_num, by omega, HN1⟩
    · have hil2 : (L : Int) ≤ i := by omega
      have hf := HN.out
      rw [show i = E.length by rw [HLL.out]; omega, List.take_length] at hf
      have HF := Lib.hid hf
      clear hf
      go_wp2
      go_ret
      exact ⟨_, _, rfl, HF.out⟩
end Go.Proofs.Ytafonmnfeibaiaa.RF
/- The document's tree: Names, as the program's. -/
namespace Go.Proofs.Ytafonmnfeibaiaa.RF
open Go.RowKit

theorem enc_bs (a : ByteArray) : encStr (bs a) = Value.string a := by
  show Value.string (tx (bs a)) = Value.string a
  congr 1
set_option maxHeartbeats 1000000 in
theorem rf_names_no {w : World} {t B : Nat} {G : Gt} {T : IT.Tr} (h : Trf w t B G T) (ki : Int) (hm : T ki.toNat = none) :
    Calls Try.prog 70 #[.pointer (some ⟨t, 0, none⟩), .int .i64 ki] w fun e w' => e = .returned (.slice none 0 0) ∧ w = w' := by
  have HI := Lib.hid (rf_is_no h ki hm)
  clear h hm
  go_enter Try.func70, Try.ntmps70
  go_wp2_with fail
  refine HI.out.mono ?_
  rintro e wz ⟨rfl, rfl⟩
  go_wp2
  go_ret
  exact ⟨rfl, rfl⟩
theorem rf_names {w : World} {t B : Nat} {G : Gt} {T : IT.Tr} (h : Trf w t B G T) (ki : Int) :
    Calls Try.prog 70 #[.pointer (some ⟨t, 0, none⟩), .int .i64 ki] w fun e w' => ∃ v, e = .returned v ∧ w'.ownsRow w.heap.size 9 1 v (namesT T ki.toNat).length ((namesT T ki.toNat).map encStr) ∧ (v = .slice none 0 0 ↔ namesT T ki.toNat = []) ∧ Below w.heap.size w w' := by
  cases hm : T ki.toNat with
  | none =>
    refine (rf_names_no h ki hm).mono ?_
    rintro e w' ⟨rfl, rfl⟩
    have e0 : namesT T ki.toNat = [] := by unfold namesT; rw [hm]
    rw [e0]
    exact ⟨_, rfl, World.ownsRow_nil w w.heap.size 9 1, by simp, Below.refl _ _⟩
  | some m =>
    obtain ⟨k, rfl, _, _, hk⟩ := h.nat hm
    refine (rf_names_some h hk).mono ?_
    rintro e w' ⟨v, A, rfl, hn⟩
    have e0 : namesT T (k : Int).toNat = m.names.map (·.1) := by unfold namesT; rw [hm]
    have hp : (A.map bs).Perm (m.names.map (·.1)) := by
      have h1 := hn.mem.map bs
      have h2 := ((h.ties.sok k m hk).names).map (·.1)
      refine h1.trans ?_
      have e1 : (ents (G k).ents).map (·.1) = ((G k).ents.map (·.1)).map bs := by unfold ents; rw [List.map_map, List.map_map]; rfl
      rw [← e1]
      exact h2
    have e1 := sorted_names hn.ord (h.snd.1.ord k m hk) hp
    have e2 : (m.names.map (·.1)).map encStr = A.map Value.string := by
      rw [← e1, List.map_map]
      refine List.map_congr_left fun a _ => ?_
      exact enc_bs a
    have e3 : (m.names.map (·.1)).length = A.length := by rw [← e1, List.length_map]
    rw [e0, e2, e3]
    refine ⟨v, rfl, hn.row, hn.nil.trans ?_, hn.bel⟩
    rw [← e1]
    simp
end Go.Proofs.Ytafonmnfeibaiaa.RF
namespace Go.Proofs.Ytafonmnfeibaiaa.RF
open Go.RowKit

theorem run_app_row2 {P : Program} (w : World) (t ty : TypeId) (base : Nat) (e : TypeId) (i : TypeInfo) (z : Value) (bytes : Nat) (ht : P.underlying t = some (.slice e)) (hi : P.info? e = some i) (hz : i.zero = some z)
    (hsize : i.size = 2) (hby : i.bytes = bytes) (hzs : z.cells.size = 2)
    (v : Value) (n : Nat) (xs : List Value) (hown : w.ownsRow base e 2 v n xs)
    (bu : Nat) (u : Value) (m : Nat) (news : List Value) (hu : w.ownsRow bu e 2 u m news) (h1 : ∀ u ∈ news, u.oneCell' = true)
    (h63 : n + m ≤ maxLen) (hbytes : (n + m) * bytes ≤ 140737488355328) (hbase : base ≤ w.heap.size) :
    ∃ v' w', (Builtin.append_ #[t, t] ty #[v, u]).run P w = .ok v' w' ∧ w'.ownsRow base e 2 v' (n + m) (xs ++ news) ∧ w.grownBy w' v.ownBlock := by
  rcases hu.2 with ⟨rfl, h0⟩ | ⟨g, cap, cur, rfl, hb, hh, hn, hc, hs, htk⟩
  · subst h0
    have hnil : news = [] := List.eq_nil_of_length_eq_zero (by rw [hu.1])
    subst hnil
    exact ⟨v, w, run_append_owned_none (P := P) w base t ty e i 2 ht hi v n xs hown, by simpa using hown, World.grownBy.refl _ _⟩
  · obtain ⟨v', w', hr, h2, h3, _, _⟩ := run_append_own_at (P := P) w base t ty e i z 2 bytes ht hi hz hsize hby hzs (by decide) v n xs hown ⟨g, 0, none⟩ m cap news hu.1 (hu.cells rfl) h1 h63 hbytes hbase
    exact ⟨v', w', hr, h2, h3⟩
theorem step_app_row2 {P : Program} {w : World} {ops : Array Oper} {o : Oper} {a : Act} {K : Act → World → Prop} {Q : Exit → Act → World → Prop} {E : Prop} (hgd : o.guard = none) (s x : Operand) (t : TypeId)
    (ho : o.op = .call { callee := .builtin .append, args := #[s, x], argTypes := #[t, t] })
    (base : Nat) (e : TypeId) (i : TypeInfo) (z : Value) (bytes : Nat) (ht : P.underlying t = some (.slice e)) (hi : P.info? e = some i) (hz : i.zero = some z)
    (hsize : i.size = 2) (hby : i.bytes = bytes) (hzs : z.cells.size = 2)
    (v : Value) (n : Nat) (xs : List Value) (hs : a.eval s = v) (hown : w.ownsRow base e 2 v n xs)
    (bu : Nat) (u : Value) (m : Nat) (news : List Value) (hx : a.eval x = u) (hu : w.ownsRow bu e 2 u m news) (h1 : ∀ u ∈ news, u.oneCell' = true)
    (h63 : n + m ≤ maxLen) (hbytes : (n + m) * bytes ≤ 140737488355328) (hbase : base ≤ w.heap.size)
    (h : ∀ v' w', w'.ownsRow base e 2 v' (n + m) (xs ++ news) → w.grownBy w' v.ownBlock → Below base w w' → K (a.put o.dst v') w') :
    if Region.wanted o (yielded ops a.tmps) = true then Oper.wp P o a w K Q else E := by
  have hw : Region.wanted o (yielded ops a.tmps) = true := by simp [Region.wanted, hgd]
  rw [if_pos hw]
  obtain ⟨v', w', hr, h2, h3⟩ := run_app_row2 (P := P) w t o.type base e i z bytes ht hi hz hsize hby hzs v n xs hown bu u m news hu h1 h63 hbytes hbase
  unfold Oper.wp execOp
  simp only [ho, resolve, invoke, builtin, Sem.run_bind, Sem.run_pure, Result.andThen_ok, List.map_toArray, List.map_cons, List.map_nil, hs, hx, hr]
  exact h v' w' h2 h3 ((Below.refl _ _).grown h3 hbase (own_ge hown))
theorem _root_.Go.World.ownsRow.below2 {W w : World} {base n : Nat} {e : TypeId} {v : Value} {xs : List Value} (h : W.ownsRow base e 2 v n xs) (hb : Below W.heap.size W w) : w.ownsRow base e 2 v n xs := by
  obtain ⟨h1, ⟨h2, h3⟩ | ⟨g, cap, cur, h2, hg, hh, rest⟩⟩ := h
  · exact ⟨h1, .inl ⟨h2, h3⟩⟩
  · exact ⟨h1, .inr ⟨g, cap, cur, h2, hg, (hb.block g (lt_of_heap hh)).trans hh, rest⟩⟩
theorem own_one (w : World) (e : TypeId) (B : Nat) (a b : Value) (hB : w.heap.size = B) : (w.alloc (.cells #[a, b] e)).ownsRow 0 e 2 (.slice (some ⟨B, 0, none⟩) 1 1) 1 [a, b] :=
  hB ▸ ⟨rfl, .inr ⟨w.heap.size, 1, #[a, b], rfl, Nat.zero_le _, alloc_heap _ _, Nat.le_refl _, by decide, rfl, rfl⟩⟩
theorem cell_block {w w' : World} {b : Nat} (h : w'.heap[b]? = w.heap[b]?) (i : Nat) : w'.cell? ⟨b, i, none⟩ = w.cell? ⟨b, i, none⟩ := by
  simp [World.cell?, h]
/-- While a region goes: block B alone may be another one. -/
def Sy (w : World) (t B off : Nat) (W : World) : Prop := Mo B w W ∧ W.cell? ⟨t, 0, none⟩ = some (.slice (some ⟨B, 0, none⟩) 201 201) ∧ W.frozen? ⟨B, off, none⟩ = false
theorem Sy.start {w : World} {t B : Nat} {G : Gt} (h : Rf w t B G) (off : Nat) : Sy w t B off w := ⟨Mo.refl _ _, h.cellT, h.frozen off⟩
theorem Sy.below {w W W' : World} {t B off : Nat} (hb : Below w.heap.size W W') (ht : t < w.heap.size) (hB : B < w.heap.size) (h : Sy w t B off W) : Sy w t B off W' := by
  obtain ⟨h1, h2, h4⟩ := h
  refine ⟨h1.grow hb, ?_, ?_⟩
  · rw [hb.cell (p := ⟨t, 0, none⟩) ht]; exact h2
  · rw [hb.frozen (p := ⟨B, off, none⟩) hB]; exact h4
theorem Sy.set {w W : World} {t B off : Nat} (hne : t ≠ B) (h : Sy w t B off W) (v : Value) : Sy w t B off (W.setCell ⟨B, off, none⟩ v) := by
  obtain ⟨h1, h2, h4⟩ := h
  refine ⟨h1.set _, ?_, ?_⟩
  · rw [World.cell?_setCell_far _ _ _ _ (Ne.symm hne)]; exact h2
  · rw [World.frozen?_setCell]; exact h4
theorem EntAt.mo {w W : World} {t B : Nat} {G : Gt} (h : Rf w t B G) {n : RN} (he : EntAt w n) (hm : Mo B w W) : EntAt W n :=
  he.same fun g C f hg => hm.block g (lt_of_heap hg) (fun e => by subst e; have := hg.symm.trans h.row; simp at this)
end Go.Proofs.Ytafonmnfeibaiaa.RF
namespace Go.Proofs.Ytafonmnfeibaiaa
open Go.RowKit

theorem sz (s : ByteArray) : s.data.toList.length = s.size := by simp
theorem data_get (s : ByteArray) (j : Nat) (h : j < s.size) : s.data[j]! = s[j] := by
  have h1 : j < s.data.size := h
  rw [getElem!_pos s.data j h1]; rfl
theorem toList_get (s : ByteArray) (j : Nat) (h : j < s.data.toList.length) : s.data.toList[j] = s.data[j]! := by
  have h1 : j < s.data.size := by simpa using h
  rw [getElem!_pos s.data j h1]; simp
theorem contains_idx (l : List UInt8) (c : UInt8) : l.contains c = decide (0 ≤ Lib.indexByte l c) := by
  rw [Bool.eq_iff_iff]
  simp only [List.contains_iff_mem, decide_eq_true_eq]
  constructor
  · intro hm
    have h1 := Lib.indexByte_ge l c
    rcases Int.lt_or_le (Lib.indexByte l c) 0 with h | h
    · obtain ⟨k, hk, he⟩ := List.getElem_of_mem hm
      exact absurd (by rw [List.getElem?_eq_getElem hk, he]) (Lib.indexByte_none (by omega) k)
    · exact h
  · intro h
    obtain ⟨i, hi⟩ : ∃ i : Nat, Lib.indexByte l c = i := ⟨(Lib.indexByte l c).toNat, by omega⟩
    exact List.mem_of_getElem? (Lib.indexByte_some hi).1
theorem nameB_iff (s : ByteArray) : nameB s = true ↔ (¬ s.data.toList = [] ∧ s.size ≤ 14 ∧ ¬ s.data.toList = [46] ∧ ¬ s.data.toList = [46, 46] ∧ plainB s.data.toList = true ∧ 47 ∉ s.data.toList) := by
  simp only [nameB, decide_eq_true_eq]
  have := contains_idx s.data.toList 47
  rw [Bool.eq_iff_iff] at this
  simp only [List.contains_iff_mem, decide_eq_true_eq] at this
  rw [this]

/-! ### The document's Name -/
theorem nameB_neg (s : ByteArray) (j : Nat) (hj : j < s.size) (h : s[j].toNat < 32 ∨ s[j].toNat = 127 ∨ s[j].toNat = 47) : nameB s = false := by
  rw [Bool.eq_false_iff]
  intro hn
  obtain ⟨_, _, _, _, hp, hno⟩ := (nameB_iff s).1 hn
  by_cases h1 : s[j].toNat < 32 ∨ s[j].toNat = 127
  · have : okc s[j] = false := by simp [okc]; omega
    rw [plain_bad s j hj this] at hp; cases hp
  · refine hno ?_
    have e : s[j] = 47 := UInt8.toNat_inj.1 (by have e : (47 : UInt8).toNat = 47 := rfl; omega)
    have : s.data.toList[j]'(by rw [sz]; exact hj) = 47 := by rw [toList_get, data_get s j hj, e]
    rw [← this]; exact List.getElem_mem _
set_option maxHeartbeats 400000 in
theorem rname_any (s : ByteArray) (w : World) :
    Calls Try.prog 25 #[.string s] w fun e w' => e = .returned (.bool (nameB s)) ∧ w = w' := by
  by_cases h1 : s.size < 1
  · have HN : Hid (nameB s = false) := Lib.hid (by
      rw [Bool.eq_false_iff]; intro hn
      have := (nameB_iff s).1 hn
      exact this.1 (List.eq_nil_of_length_eq_zero (by rw [sz]; omega)))
    have h11 : (s.size : Int) < 1 := by omega
    go_enter Try.func25, Try.ntmps25
    go_wp2
    go_ret
    exact ⟨ret_bool HN.out.symm, rfl⟩
  have h11 : ¬ (s.size : Int) < 1 := by omega
  by_cases h2 : 14 < s.size
  · have HN : Hid (nameB s = false) := Lib.hid (by
      rw [Bool.eq_false_iff]; intro hn
      have := (nameB_iff s).1 hn
      omega)
    have h21 : (14 : Int) < s.size := by omega
    go_enter Try.func25, Try.ntmps25
    go_wp2
    go_ret
    exact ⟨ret_bool HN.out.symm, rfl⟩
  have h21 : ¬ (14 : Int) < s.size := by omega
  by_cases h3 : s.data.toList = [46]
  · have HN : Hid (nameB s = false) := Lib.hid (by
      rw [Bool.eq_false_iff]; intro hn
      exact ((nameB_iff s).1 hn).2.2.1 h3)
    have h31 : s.toList = [46] := by rw [toList_data]; exact h3
    clear h3
    go_enter Try.func25, Try.ntmps25
    go_wp2
    go_ret
    exact ⟨ret_bool HN.out.symm, rfl⟩
  have h31 : (s.toList == [46]) = false := by rw [toList_data]; simpa using h3
  by_cases h4 : s.data.toList = [46, 46]
  · have HN : Hid (nameB s = false) := Lib.hid (by
      rw [Bool.eq_false_iff]; intro hn
      exact ((nameB_iff s).1 hn).2.2.2.1 h4)
    have h41 : s.toList = [46, 46] := by rw [toList_data]; exact h4
    clear h3 h4
    go_enter Try.func25, Try.ntmps25
    go_wp2
    go_ret
    exact ⟨ret_bool HN.out.symm, rfl⟩
  have h41 : (s.toList == [46, 46]) = false := by rw [toList_data]; simpa using h4
  have H3 := Lib.hid h3
  have H4 := Lib.hid h4
  clear h3 h4
  go_enter Try.func25, Try.ntmps25
  go_wp2
  go_loop [3] (fun i => ∃ k : Nat, k ≤ s.size ∧ i = .int .i64 k ∧ plainB (s.data.toList.take k) = true ∧ (∀ j (h : j < s.size), j < k → s[j].toNat ≠ 47)) (fun i => s.size - (intOf i).toNat)
  case atStart => exact ⟨0, Nat.zero_le _, rfl, rfl, fun j _ h => by omega⟩
  case round =>
    obtain ⟨k, hk, rfl, hp, hq⟩ := hrel
    have HP := Lib.hid hp
    have HQ := Lib.hid hq
    clear hp hq
    by_cases hlt : k < s.size
    · have HB := Lib.hid (fun h => nameB_neg s k hlt h)
      by_cases g1 : (s[k].toNat : Int) < 32
      · go_wp2
        go_ret
        exact ⟨ret_bool (HB.out (.inl (by omega))).symm, rfl⟩
      by_cases g2 : ((s[k].toNat : Int) == 127) = true
      · go_wp2
        go_ret
        exact ⟨ret_bool (HB.out (.inr (.inl (by simp at g2; omega)))).symm, rfl⟩
      by_cases g3 : ((s[k].toNat : Int) == 47) = true
      · have g2' : ((s[k].toNat : Int) == 127) = false := by simpa using g2
        clear g2
        go_wp2
        go_ret
        exact ⟨ret_bool (HB.out (.inr (.inr (by simp at g3; omega)))).symm, rfl⟩
      have g2' : ((s[k].toNat : Int) == 127) = false := by simpa using g2
      have g3' : ((s[k].toNat : Int) == 47) = false := by simpa using g3
      have HO : Hid (okc s[k] = true) := Lib.hid (by simp at g2' g3'; simp [okc]; omega)
      have HE : Hid (s[k].toNat ≠ 47) := Lib.hid (by simp at g3'; omega)
      clear g2 g3
      go_wp2
      go_round
      case rel =>
        refine ⟨k + 1, by omega, by go_num, by rw [plain_take s k hlt, HP.out, HO.out]; rfl, fun j h hj => ?_⟩
        by_cases e : j = k
        · subst e; exact HE.out
        · exact HQ.out j h (by omega)
      case measure => simp [intOf]; omega
    · have HN : Hid (nameB s = true) := Lib.hid (by
        rw [nameB_iff]
        refine ⟨fun e => ?_, by omega, H3.out, H4.out, by rw [← plain_all s k (by omega)]; exact HP.out, fun hm => ?_⟩
        · have h9 := congrArg List.length e; rw [sz] at h9; have h8 : ([] : List UInt8).length = 0 := rfl; omega
        · obtain ⟨j, hj, he⟩ := List.getElem_of_mem hm
          have hj2 : j < s.size := by rw [← sz]; exact hj
          rw [toList_get, data_get s j hj2] at he
          exact HQ.out j hj2 (by omega) (by rw [he]; rfl))
      go_wp2
      go_ret
      exact ⟨ret_bool HN.out.symm, rfl⟩
theorem rname_ok (s : ByteArray) (w : World) : Calls Try.prog 25 #[.string s] w fun e w' => e = .returned (.bool (okN (bs s))) ∧ w = w' := by
  rw [← nameB_ok]; exact rname_any s w
end Go.Proofs.Ytafonmnfeibaiaa
namespace Go.Proofs.Ytafonmnfeibaiaa.RF
open Go.RowKit

/-! ### the document's tree: Enter -/
set_option maxRecDepth 100000 in
set_option maxHeartbeats 4000000 in
theorem rf_enter_no {w : World} {t B : Nat} {G : Gt} {T : IT.Tr} (h : Trf w t B G T) (d x : Int) (s : ByteArray) (hn : T d.toNat = none ∨ T x.toNat = none) :
    Calls Try.prog 65 #[.pointer (some ⟨t, 0, none⟩), .int .i64 d, .string s, .int .i64 x] w fun e w' => e = .returned (.int .i64 3) ∧ w = w' := by
  cases hd : T d.toNat with
  | none =>
    have HI1 := Lib.hid (rf_is_no h d hd)
    have HI2 := Lib.hid (rf_is h.rep x)
    generalize isB G x = q at *
    clear h hd hn
    go_enter Try.func65, Try.ntmps65
    go_wp2_with fail
    refine HI1.out.mono ?_
    rintro e wz ⟨rfl, rfl⟩
    go_wp2_with fail
    refine HI2.out.mono ?_
    rintro e wz ⟨rfl, rfl⟩
    go_wp2
    all_goals go_ret
    all_goals exact ⟨rfl, rfl⟩
  | some n =>
    have hx : T x.toNat = none := hn.resolve_left (fun e => by rw [hd] at e; cases e)
    have HI1 := Lib.hid (rf_is_yes h d hd)
    have HI2 := Lib.hid (rf_is_no h x hx)
    clear h hd hn hx
    go_enter Try.func65, Try.ntmps65
    go_wp2_with fail
    refine HI1.out.mono ?_
    rintro e wz ⟨rfl, rfl⟩
    go_wp2_with fail
    refine HI2.out.mono ?_
    rintro e wz ⟨rfl, rfl⟩
    go_wp2
    all_goals go_ret
    all_goals exact ⟨rfl, rfl⟩
set_option maxRecDepth 100000 in
set_option maxHeartbeats 4000000 in
theorem rf_enter_nodir {w : World} {t B : Nat} {G : Gt} {T : IT.Tr} (h : Trf w t B G T) (d x : Int) (s : ByteArray) {n m : IT.Nd} (hd : T d.toNat = some n) (hx : T x.toNat = some m) (hk : n.kind ≠ 1) :
    Calls Try.prog 65 #[.pointer (some ⟨t, 0, none⟩), .int .i64 d, .string s, .int .i64 x] w fun e w' => e = .returned (.int .i64 6) ∧ w = w' := by
  have HI1 := Lib.hid (rf_is_yes h d hd)
  have HI2 := Lib.hid (rf_is_yes h x hx)
  obtain ⟨kd, rfl, hd1, hd2, hdk⟩ := h.nat hd
  obtain ⟨kx, rfl, hx1, hx2, hxk⟩ := h.nat hx
  have c0 := h.rep.cellT
  have b1 := h.rep.c1 kd hd2
  rw [(h.ties.sok kd n hdk).kind] at b1
  have z1 : (n.kind == 1) = false := by simpa using hk
  clear h hd hx hdk hxk hk
  go_enter Try.func65, Try.ntmps65
  go_wp2_with fail
  refine HI1.out.mono ?_
  rintro e wz ⟨rfl, rfl⟩
  go_wp2_with fail
  refine HI2.out.mono ?_
  rintro e wz ⟨rfl, rfl⟩
  go_wp2
  all_goals go_ret
  all_goals exact ⟨rfl, rfl⟩
set_option maxRecDepth 100000 in
set_option maxHeartbeats 4000000 in
theorem rf_enter_name {w : World} {t B : Nat} {G : Gt} {T : IT.Tr} (h : Trf w t B G T) (d x : Int) (s : ByteArray) {n m : IT.Nd} (hd : T d.toNat = some n) (hx : T x.toNat = some m) (hk : n.kind = 1) (hok : okN (bs s) = false) :
    Calls Try.prog 65 #[.pointer (some ⟨t, 0, none⟩), .int .i64 d, .string s, .int .i64 x] w fun e w' => e = .returned (.int .i64 1) ∧ w = w' := by
  have HI1 := Lib.hid (rf_is_yes h d hd)
  have HI2 := Lib.hid (rf_is_yes h x hx)
  obtain ⟨kd, rfl, hd1, hd2, hdk⟩ := h.nat hd
  obtain ⟨kx, rfl, hx1, hx2, hxk⟩ := h.nat hx
  have c0 := h.rep.cellT
  have b1 := h.rep.c1 kd hd2
  rw [(h.ties.sok kd n hdk).kind] at b1
  rw [hk] at b1
  have HN := Lib.hid (rname_ok s w)
  rw [hok] at HN
  clear h hd hx hdk hxk hk hok
  go_enter Try.func65, Try.ntmps65
  go_wp2_with fail
  refine HI1.out.mono ?_
  rintro e wz ⟨rfl, rfl⟩
  go_wp2_with fail
  refine HI2.out.mono ?_
  rintro e wz ⟨rfl, rfl⟩
  go_wp2_with fail
  refine HN.out.mono ?_
  rintro e wz ⟨rfl, rfl⟩
  go_wp2
  all_goals go_ret
  all_goals exact ⟨rfl, rfl⟩
set_option maxRecDepth 100000 in
set_option maxHeartbeats 4000000 in
theorem rf_enter_is {w : World} {t B : Nat} {G : Gt} {T : IT.Tr} (h : Trf w t B G T) (d x : Int) (s : ByteArray) {n m : IT.Nd} (hd : T d.toNat = some n) (hx : T x.toNat = some m) (hk : n.kind = 1) (hok : okN (bs s) = true) (hf : IT.findN (bs s) n.names ≠ none) :
    Calls Try.prog 65 #[.pointer (some ⟨t, 0, none⟩), .int .i64 d, .string s, .int .i64 x] w fun e w' => e = .returned (.int .i64 5) ∧ w = w' := by
  have HI1 := Lib.hid (rf_is_yes h d hd)
  have HI2 := Lib.hid (rf_is_yes h x hx)
  obtain ⟨kd, rfl, hd1, hd2, hdk⟩ := h.nat hd
  obtain ⟨kx, rfl, hx1, hx2, hxk⟩ := h.nat hx
  have c0 := h.rep.cellT
  have b1 := h.rep.c1 kd hd2
  rw [(h.ties.sok kd n hdk).kind] at b1
  rw [hk] at b1
  have HN := Lib.hid (rname_ok s w)
  rw [hok] at HN
  obtain ⟨i, y, _, g2, g3⟩ := (h.ties.find h.snd.1 hdk s).resolve_left (fun e => hf e.1)
  have HA := Lib.hid (rf_at_some h.rep kd hd2 s g2 g3)
  clear h hd hx hdk hxk hk hok hf g2 g3
  go_enter Try.func65, Try.ntmps65
  go_wp2_with fail
  refine HI1.out.mono ?_
  rintro e wz ⟨rfl, rfl⟩
  go_wp2_with fail
  refine HI2.out.mono ?_
  rintro e wz ⟨rfl, rfl⟩
  go_wp2_with fail
  refine HN.out.mono ?_
  rintro e wz ⟨rfl, rfl⟩
  go_wp2_with fail
  refine HA.out.mono ?_
  rintro e wz ⟨rfl, rfl⟩
  go_wp2
  all_goals go_ret
  all_goals exact ⟨rfl, rfl⟩
set_option maxRecDepth 100000 in
set_option maxHeartbeats 4000000 in
theorem rf_enter_many {w : World} {t B : Nat} {G : Gt} {T : IT.Tr} (h : Trf w t B G T) (d x : Int) (s : ByteArray) {n m : IT.Nd} (hd : T d.toNat = some n) (hx : T x.toNat = some m) (hk : n.kind = 1) (hok : okN (bs s) = true) (hf : IT.findN (bs s) n.names = none) (hm : x.toNat = 1 ∨ (m.kind = 1 ∧ IT.lnk T x.toNat > 0) ∨ IT.lnk T x.toNat ≥ 8) :
    Calls Try.prog 65 #[.pointer (some ⟨t, 0, none⟩), .int .i64 d, .string s, .int .i64 x] w fun e w' => e = .returned (.int .i64 12) ∧ w = w' := by
  have HI1 := Lib.hid (rf_is_yes h d hd)
  have HI2 := Lib.hid (rf_is_yes h x hx)
  obtain ⟨kd, rfl, hd1, hd2, hdk⟩ := h.nat hd
  obtain ⟨kx, rfl, hx1, hx2, hxk⟩ := h.nat hx
  have c0 := h.rep.cellT
  have b1 := h.rep.c1 kd hd2
  rw [(h.ties.sok kd n hdk).kind] at b1
  rw [hk] at b1
  have HN := Lib.hid (rname_ok s w)
  rw [hok] at HN
  have hfn := ((h.ties.find h.snd.1 hdk s).resolve_right (fun ⟨i, y, e, _⟩ => by rw [hf] at e; cases e)).2
  have HA := Lib.hid (rf_at_none h.rep kd hd2 s hfn)
  have hS := sumG_lnk h.snd.1.rng h.ties kx
  have HL := Lib.hid (rf_sum h.rep kx (h.ties.few h.snd.1))
  rw [hS] at HL
  have b1x := h.rep.c1 kx hx2
  rw [(h.ties.sok kx m hxk).kind] at b1x
  have hl8 := h.snd.1.many kx
  rw [Int.toNat_natCast] at hm
  generalize IT.lnk T kx = ln at *
  clear h hd hx hdk hxk hk hok hf hfn hS
  by_cases q1 : kx = 1
  · subst q1
    clear hm
    go_enter Try.func65, Try.ntmps65
    go_wp2_with fail
    refine HI1.out.mono ?_
    rintro e wz ⟨rfl, rfl⟩
    go_wp2_with fail
    refine HI2.out.mono ?_
    rintro e wz ⟨rfl, rfl⟩
    go_wp2_with fail
    refine HN.out.mono ?_
    rintro e wz ⟨rfl, rfl⟩
    go_wp2_with fail
    refine HA.out.mono ?_
    rintro e wz ⟨rfl, rfl⟩
    go_wp2_with fail
    refine HL.out.mono ?_
    rintro e wz ⟨rfl, rfl⟩
    go_wp2
    all_goals go_ret
    all_goals exact ⟨rfl, rfl⟩
  · have z1 : ((kx : Int) == 1) = false := by simpa using (show ¬ (kx : Int) = 1 by omega)
    by_cases q2 : m.kind = 1
    · have z2 : (m.kind == 1) = true := by simpa using q2
      have hl0 : 0 < ln := by
        rcases hm with hm | hm | hm
        · exact absurd hm q1
        · exact hm.2
        · omega
      have hl1 : (0 : Int) < ln := by omega
      clear hm q1 q2
      go_enter Try.func65, Try.ntmps65
      go_wp2_with fail
      refine HI1.out.mono ?_
      rintro e wz ⟨rfl, rfl⟩
      go_wp2_with fail
      refine HI2.out.mono ?_
      rintro e wz ⟨rfl, rfl⟩
      go_wp2_with fail
      refine HN.out.mono ?_
      rintro e wz ⟨rfl, rfl⟩
      go_wp2_with fail
      refine HA.out.mono ?_
      rintro e wz ⟨rfl, rfl⟩
      go_wp2_with fail
      refine HL.out.mono ?_
      rintro e wz ⟨rfl, rfl⟩
      go_wp2
      all_goals go_ret
      all_goals exact ⟨rfl, rfl⟩
    · have z2 : (m.kind == 1) = false := by simpa using q2
      have hl0 : 8 ≤ ln := by
        rcases hm with hm | hm | hm
        · exact absurd hm q1
        · exact absurd hm.1 q2
        · exact hm
      have hl1 : (8 : Int) ≤ ln := by omega
      clear hm q1 q2
      go_enter Try.func65, Try.ntmps65
      go_wp2_with fail
      refine HI1.out.mono ?_
      rintro e wz ⟨rfl, rfl⟩
      go_wp2_with fail
      refine HI2.out.mono ?_
      rintro e wz ⟨rfl, rfl⟩
      go_wp2_with fail
      refine HN.out.mono ?_
      rintro e wz ⟨rfl, rfl⟩
      go_wp2_with fail
      refine HA.out.mono ?_
      rintro e wz ⟨rfl, rfl⟩
      go_wp2_with fail
      refine HL.out.mono ?_
      rintro e wz ⟨rfl, rfl⟩
      go_wp2
      all_goals go_ret
      all_goals exact ⟨rfl, rfl⟩
set_option maxRecDepth 100000 in
set_option maxHeartbeats 4000000 in
theorem rf_enter_full {w : World} {t B : Nat} {G : Gt} {T : IT.Tr} (h : Trf w t B G T) (d x : Int) (s : ByteArray) {n m : IT.Nd} (hd : T d.toNat = some n) (hx : T x.toNat = some m) (hk : n.kind = 1) (hok : okN (bs s) = true) (hf : IT.findN (bs s) n.names = none) (hm : ¬ (x.toNat = 1 ∨ (m.kind = 1 ∧ IT.lnk T x.toNat > 0) ∨ IT.lnk T x.toNat ≥ 8)) (h40 : n.names.length ≥ 40) :
    Calls Try.prog 65 #[.pointer (some ⟨t, 0, none⟩), .int .i64 d, .string s, .int .i64 x] w fun e w' => e = .returned (.int .i64 9) ∧ w = w' := by
  have HI1 := Lib.hid (rf_is_yes h d hd)
  have HI2 := Lib.hid (rf_is_yes h x hx)
  obtain ⟨kd, rfl, hd1, hd2, hdk⟩ := h.nat hd
  obtain ⟨kx, rfl, hx1, hx2, hxk⟩ := h.nat hx
  have c0 := h.rep.cellT
  have b1 := h.rep.c1 kd hd2
  rw [(h.ties.sok kd n hdk).kind] at b1
  rw [hk] at b1
  have HN := Lib.hid (rname_ok s w)
  rw [hok] at HN
  have hfn := ((h.ties.find h.snd.1 hdk s).resolve_right (fun ⟨i, y, e, _⟩ => by rw [hf] at e; cases e)).2
  have HA := Lib.hid (rf_at_none h.rep kd hd2 s hfn)
  have hS := sumG_lnk h.snd.1.rng h.ties kx
  have HL := Lib.hid (rf_sum h.rep kx (h.ties.few h.snd.1))
  rw [hS] at HL
  have b1x := h.rep.c1 kx hx2
  rw [(h.ties.sok kx m hxk).kind] at b1x
  have hl8 := h.snd.1.many kx
  rw [Int.toNat_natCast] at hm
  have q1 : ¬ kx = 1 := fun e => hm (.inl e)
  have z1 : ((kx : Int) == 1) = false := by simpa using (show ¬ (kx : Int) = 1 by omega)
  have hl7 : ¬ IT.lnk T kx ≥ 8 := fun e => hm (.inr (.inr e))
  have hl8' : ((IT.lnk T kx : Nat) : Int) < 8 := by omega
  have hdz : m.kind = 1 → IT.lnk T kx = 0 := fun e => by
    have := fun e2 => hm (.inr (.inl ⟨e, e2⟩))
    omega
  have b9 := h.rep.c9 kd hd2
  obtain ⟨a, cap, hs, hcp1, hcp2, _⟩ := (h.rep.ents kd hd2).lit
  rw [hs] at b9
  have hnl : n.names.length = (G kd).ents.length := by have := (h.ties.sok kd n hdk).names.length_eq; unfold ents at this; rw [List.length_map] at this; exact this.symm
  rw [hnl] at h40
  have hL1 : (40 : Int) ≤ (G kd).ents.length := by omega
  have hL2 := h.ties.few h.snd.1 kd hd2
  generalize (G kd).ents.length = L at *
  clear h hd hx hdk hxk hk hok hf hfn hS hm q1 hs hcp1 hcp2 hnl
  by_cases q2 : m.kind = 1
  · have z2 : (m.kind == 1) = true := by simpa using q2
    have hz := hdz q2
    rw [hz, show ((0 : Nat) : Int) = 0 from rfl] at HL
    clear hdz hz q2 hl8' hl7 hl8
    generalize IT.lnk T kx = ln at *
    go_enter Try.func65, Try.ntmps65
    go_wp2_with fail
    refine HI1.out.mono ?_
    rintro e wz ⟨rfl, rfl⟩
    go_wp2_with fail
    refine HI2.out.mono ?_
    rintro e wz ⟨rfl, rfl⟩
    go_wp2_with fail
    refine HN.out.mono ?_
    rintro e wz ⟨rfl, rfl⟩
    go_wp2_with fail
    refine HA.out.mono ?_
    rintro e wz ⟨rfl, rfl⟩
    go_wp2_with fail
    refine HL.out.mono ?_
    rintro e wz ⟨rfl, rfl⟩
    go_wp2
    all_goals go_ret
    all_goals exact ⟨rfl, rfl⟩
  · have z2 : (m.kind == 1) = false := by simpa using q2
    clear hdz q2
    generalize IT.lnk T kx = ln at *
    go_enter Try.func65, Try.ntmps65
    go_wp2_with fail
    refine HI1.out.mono ?_
    rintro e wz ⟨rfl, rfl⟩
    go_wp2_with fail
    refine HI2.out.mono ?_
    rintro e wz ⟨rfl, rfl⟩
    go_wp2_with fail
    refine HN.out.mono ?_
    rintro e wz ⟨rfl, rfl⟩
    go_wp2_with fail
    refine HA.out.mono ?_
    rintro e wz ⟨rfl, rfl⟩
    go_wp2_with fail
    refine HL.out.mono ?_
    rintro e wz ⟨rfl, rfl⟩
    go_wp2
    all_goals go_ret
    all_goals exact ⟨rfl, rfl⟩
set_option maxRecDepth 100000 in
set_option maxHeartbeats 4000000 in
theorem rf_enter_busy {w : World} {t B : Nat} {G : Gt} {T : IT.Tr} (h : Trf w t B G T) (d x : Int) (s : ByteArray) {n m : IT.Nd} (hd : T d.toNat = some n) (hx : T x.toNat = some m) (hk : n.kind = 1) (hok : okN (bs s) = true) (hf : IT.findN (bs s) n.names = none) (hm : ¬ (x.toNat = 1 ∨ (m.kind = 1 ∧ IT.lnk T x.toNat > 0) ∨ IT.lnk T x.toNat ≥ 8)) (h40 : ¬ n.names.length ≥ 40) (hmk : m.kind = 1) (hbe : IT.Bel T x.toNat d.toNat) :
    Calls Try.prog 65 #[.pointer (some ⟨t, 0, none⟩), .int .i64 d, .string s, .int .i64 x] w fun e w' => e = .returned (.int .i64 8) ∧ w = w' := by
  have HI1 := Lib.hid (rf_is_yes h d hd)
  have HI2 := Lib.hid (rf_is_yes h x hx)
  obtain ⟨kd, rfl, hd1, hd2, hdk⟩ := h.nat hd
  obtain ⟨kx, rfl, hx1, hx2, hxk⟩ := h.nat hx
  have c0 := h.rep.cellT
  have b1 := h.rep.c1 kd hd2
  rw [(h.ties.sok kd n hdk).kind] at b1
  rw [hk] at b1
  have HN := Lib.hid (rname_ok s w)
  rw [hok] at HN
  have hfn := ((h.ties.find h.snd.1 hdk s).resolve_right (fun ⟨i, y, e, _⟩ => by rw [hf] at e; cases e)).2
  have HA := Lib.hid (rf_at_none h.rep kd hd2 s hfn)
  have hS := sumG_lnk h.snd.1.rng h.ties kx
  have HL := Lib.hid (rf_sum h.rep kx (h.ties.few h.snd.1))
  rw [hS] at HL
  have b1x := h.rep.c1 kx hx2
  rw [(h.ties.sok kx m hxk).kind] at b1x
  have hl8 := h.snd.1.many kx
  rw [Int.toNat_natCast] at hm
  have q1 : ¬ kx = 1 := fun e => hm (.inl e)
  have z1 : ((kx : Int) == 1) = false := by simpa using (show ¬ (kx : Int) = 1 by omega)
  have hl7 : ¬ IT.lnk T kx ≥ 8 := fun e => hm (.inr (.inr e))
  have hl8' : ((IT.lnk T kx : Nat) : Int) < 8 := by omega
  have hdz : m.kind = 1 → IT.lnk T kx = 0 := fun e => by
    have := fun e2 => hm (.inr (.inl ⟨e, e2⟩))
    omega
  have b9 := h.rep.c9 kd hd2
  obtain ⟨a, cap, hs, hcp1, hcp2, _⟩ := (h.rep.ents kd hd2).lit
  rw [hs] at b9
  have hnl : n.names.length = (G kd).ents.length := by have := (h.ties.sok kd n hdk).names.length_eq; unfold ents at this; rw [List.length_map] at this; exact this.symm
  rw [hnl] at h40
  have hL1 : ((G kd).ents.length : Int) < 40 := by omega
  have HWI : Hid (Calls Try.prog 87 #[.pointer (some ⟨t, 0, none⟩), .int .i64 (kd : Int), .int .i64 (kx : Int)] w fun e w' => e = .returned (.bool true) ∧ w = w') := Lib.hid ((rf_within h kd kx hdk hk).mono (by
    rintro e w' ⟨b, rfl, hb, rfl⟩
    rw [hb.2 hbe]
    exact ⟨rfl, rfl⟩))
  generalize (G kd).ents.length = L at *
  have hz := hdz hmk
  rw [hz, show ((0 : Nat) : Int) = 0 from rfl] at HL
  rw [hmk] at b1x
  clear h hd hx hdk hxk hk hok hf hfn hS hm q1 hs hcp1 hcp2 hnl hmk hbe hdz hz hl8' hl7 hl8
  generalize IT.lnk T kx = ln at *
  go_enter Try.func65, Try.ntmps65
  go_wp2_with fail
  refine HI1.out.mono ?_
  rintro e wz ⟨rfl, rfl⟩
  go_wp2_with fail
  refine HI2.out.mono ?_
  rintro e wz ⟨rfl, rfl⟩
  go_wp2_with fail
  refine HN.out.mono ?_
  rintro e wz ⟨rfl, rfl⟩
  go_wp2_with fail
  refine HA.out.mono ?_
  rintro e wz ⟨rfl, rfl⟩
  go_wp2_with fail
  refine HL.out.mono ?_
  rintro e wz ⟨rfl, rfl⟩
  go_wp2_with fail
  refine HWI.out.mono ?_
  rintro e wz ⟨rfl, rfl⟩
  go_wp2
  all_goals go_ret
  all_goals exact ⟨rfl, rfl⟩
/-- An entry more. -/
def AdP (w : World) (t B : Nat) (G : Gt) (k : Nat) (s : ByteArray) (x : Nat) (w' : World) : Prop := ∃ v, Rf w' t B (updG G k { G k with sl := v, ents := (G k).ents ++ [(s, x)] }) ∧ Mo B w w'
theorem Rf.moEq {w W : World} {t B : Nat} {G : Gt} (h : Rf w t B G) (hm : Mo B w W) (hq : W.heap[B]? = w.heap[B]?) : Rf W t B G :=
  ⟨(hm.block t h.ltT h.ne).trans h.tree, hq.trans h.row, fun k hk => EntAt.mo h (h.ents k hk) hm⟩
set_option maxRecDepth 100000 in
set_option maxHeartbeats 4000000 in
theorem rf_enter_file {w : World} {t B : Nat} {G : Gt} {T : IT.Tr} (h : Trf w t B G T) (d x : Int) (s : ByteArray) {n m : IT.Nd} (hd : T d.toNat = some n) (hx : T x.toNat = some m) (hk : n.kind = 1) (hok : okN (bs s) = true) (hf : IT.findN (bs s) n.names = none) (hm : ¬ (x.toNat = 1 ∨ (m.kind = 1 ∧ IT.lnk T x.toNat > 0) ∨ IT.lnk T x.toNat ≥ 8)) (h40 : ¬ n.names.length ≥ 40) (hmk : m.kind ≠ 1) :
    Calls Try.prog 65 #[.pointer (some ⟨t, 0, none⟩), .int .i64 d, .string s, .int .i64 x] w fun e w' => e = .returned (.int .i64 0) ∧ AdP w t B G d.toNat s x.toNat w' := by
  have HI1 := Lib.hid (rf_is_yes h d hd)
  have HI2 := Lib.hid (rf_is_yes h x hx)
  obtain ⟨kd, rfl, hd1, hd2, hdk⟩ := h.nat hd
  obtain ⟨kx, rfl, hx1, hx2, hxk⟩ := h.nat hx
  have c0 := h.rep.cellT
  have b1 := h.rep.c1 kd hd2
  rw [(h.ties.sok kd n hdk).kind] at b1
  rw [hk] at b1
  have HN := Lib.hid (rname_ok s w)
  rw [hok] at HN
  have hfn := ((h.ties.find h.snd.1 hdk s).resolve_right (fun ⟨i, y, e, _⟩ => by rw [hf] at e; cases e)).2
  have HA := Lib.hid (rf_at_none h.rep kd hd2 s hfn)
  have hS := sumG_lnk h.snd.1.rng h.ties kx
  have HL := Lib.hid (rf_sum h.rep kx (h.ties.few h.snd.1))
  rw [hS] at HL
  have b1x := h.rep.c1 kx hx2
  rw [(h.ties.sok kx m hxk).kind] at b1x
  have hl8 := h.snd.1.many kx
  rw [Int.toNat_natCast] at hm
  have q1 : ¬ kx = 1 := fun e => hm (.inl e)
  have z1 : ((kx : Int) == 1) = false := by simpa using (show ¬ (kx : Int) = 1 by omega)
  have hl7 : ¬ IT.lnk T kx ≥ 8 := fun e => hm (.inr (.inr e))
  have hl8' : ((IT.lnk T kx : Nat) : Int) < 8 := by omega
  have hdz : m.kind = 1 → IT.lnk T kx = 0 := fun e => by
    have := fun e2 => hm (.inr (.inl ⟨e, e2⟩))
    omega
  have b9 := h.rep.c9 kd hd2
  obtain ⟨a, cap, hs, hcp1, hcp2, _⟩ := (h.rep.ents kd hd2).lit
  rw [hs] at b9
  have hnl : n.names.length = (G kd).ents.length := by have := (h.ties.sok kd n hdk).names.length_eq; unfold ents at this; rw [List.length_map] at this; exact this.symm
  rw [hnl] at h40
  have hL1 : ((G kd).ents.length : Int) < 40 := by omega
  have hL2 : (G kd).ents.length < 40 := by omega
  obtain ⟨i0, hi0, hz0, hz1, hz2⟩ := info_parts info_entry
  have z2 : (m.kind == 1) = false := by simpa using hmk
  have hrf := h.rep
  obtain ⟨E, hE1⟩ : ∃ E, (G kd).ents = E := ⟨_, rfl⟩
  have hs1 : (G kd).sl = .slice a E.length cap := by rw [hs, hE1]
  have HM1 := Lib.hid (Mo.refl B w)
  obtain ⟨L, hL⟩ : ∃ L, E.length = L := ⟨_, rfl⟩
  rw [hE1, hL] at hL1 hL2 b9
  rw [hL] at hs1
  have HLE := Lib.hid hL
  obtain ⟨G1, hG1⟩ : ∃ G1, G = G1 := ⟨_, rfl⟩
  clear c0 b9
  have HRF := Lib.hid hrf
  have hBL := hrf.ltB
  have hTL := hrf.ltT
  have hTB := hrf.ne
  have c0 := hrf.cellT
  have b9 := hrf.c9 kd hd2
  rw [hs1] at b9
  have C9 := Lib.hid b9
  have s9 := hrf.frozen (kd * 10 + 9)
  have HSRC : Hid (∀ W', Mo B w W' → W'.ownsRow 0 126 2 (.slice a L cap) L (flatE E)) := Lib.hid (fun W' hm => by
    have := EntAt.mo HRF.out (HRF.out.ents kd hd2) hm
    unfold EntAt at this
    rw [hs1, hE1, HLE.out] at this
    rw [← HLE.out] at this ⊢
    exact this)
  have n1 : kd < 201 := by omega
  have n2 : (kd : Int) < 201 := by omega
  clear hrf
  have HG := Lib.hid hE1
  subst hG1
  rw [Int.toNat_natCast, Int.toNat_natCast]
  clear h hd hx hdk hxk hk hok hf hfn hS hm q1 hs hcp1 hcp2 hnl hmk hdz hs1 hE1 hL h40
  generalize IT.lnk T kx = ln at *
  go_enter Try.func65, Try.ntmps65
  go_wp2_with fail
  refine HI1.out.mono ?_
  rintro e wz ⟨rfl, rfl⟩
  go_wp2_with fail
  refine HI2.out.mono ?_
  rintro e wz ⟨rfl, rfl⟩
  go_wp2_with fail
  refine HN.out.mono ?_
  rintro e wz ⟨rfl, rfl⟩
  go_wp2_with fail
  refine HA.out.mono ?_
  rintro e wz ⟨rfl, rfl⟩
  go_wp2_with fail
  refine HL.out.mono ?_
  rintro e wz ⟨rfl, rfl⟩
  go_upto_region 22 with fail
  refine wp_region_held_drew (S := (fun W' => Mo B w W' ∧ W'.cell? ⟨t, 0, none⟩ = some (.slice (some ⟨B, 0, none⟩) 201 201) ∧ W'.frozen? ⟨B, kd * 10 + 9, none⟩ = false)) (by kernel_rfl) (Sy.below (Below.refl _ _).drew hTL hBL (Sy.start HRF.out _)) (fun hHeld => ?_)
  refine wpAnyH_take (i := 0) (v := ?_) rfl (by kernel_rfl) (by kernel_rfl) (by kernel_rfl) (fun _ _ _ h => h) (Or.inl ⟨by rfl, ?_⟩) (by assumption) ?_
  rotate_left
  · (intro W hSw; (try dsimp only at hSw); go_simp; try with_reducible rfl)
  try simp only [List.getElem_toArray, List.getElem_cons_zero, List.getElem_cons_succ, Act.put, List.setIfInBounds_toArray, List.set_cons_zero, List.set_cons_succ]
  refine wpAnyH_take (i := 1) (v := ?_) rfl (by kernel_rfl) (by kernel_rfl) (by kernel_rfl) (fun _ _ _ h => h) (Or.inl ⟨by rfl, ?_⟩) (by assumption) ?_
  rotate_left
  · (intro W hSw; (try dsimp only at hSw); go_simp; try with_reducible rfl)
  try simp only [List.getElem_toArray, List.getElem_cons_zero, List.getElem_cons_succ, Act.put, List.setIfInBounds_toArray, List.set_cons_zero, List.set_cons_succ]
  refine wpAnyH_take (i := 2) (v := ?_) rfl (by kernel_rfl) (by kernel_rfl) (by kernel_rfl) (fun _ _ _ h => h) (Or.inl ⟨by rfl, ?_⟩) (by assumption) ?_
  rotate_left
  · (intro W hSw; (try dsimp only at hSw); go_simp; try with_reducible rfl)
  try simp only [List.getElem_toArray, List.getElem_cons_zero, List.getElem_cons_succ, Act.put, List.setIfInBounds_toArray, List.set_cons_zero, List.set_cons_succ]
  refine wpAnyH_take (i := 3) (v := ?_) rfl (by kernel_rfl) (by kernel_rfl) (by kernel_rfl) (fun _ _ _ h => h) (Or.inl ⟨by rfl, ?_⟩) (by assumption) ?_
  rotate_left
  · (intro W hSw; (try dsimp only at hSw); go_simp; try with_reducible rfl)
  try simp only [List.getElem_toArray, List.getElem_cons_zero, List.getElem_cons_succ, Act.put, List.setIfInBounds_toArray, List.set_cons_zero, List.set_cons_succ]
  refine wpAnyH_take (i := 4) (v := ?_) rfl (by kernel_rfl) (by kernel_rfl) (by kernel_rfl) (fun _ _ _ h => h) (Or.inl ⟨by rfl, ?_⟩) (by assumption) ?_
  rotate_left
  · (intro W hSw; (try dsimp only at hSw); go_simp; try with_reducible rfl)
  try simp only [List.getElem_toArray, List.getElem_cons_zero, List.getElem_cons_succ, Act.put, List.setIfInBounds_toArray, List.set_cons_zero, List.set_cons_succ]
  refine wpAnyH_take (i := 6) (v := ?_) rfl (by kernel_rfl) (by kernel_rfl) (by kernel_rfl) (fun _ _ _ h => h) (Or.inl ⟨by rfl, ?_⟩) (by assumption) ?_
  rotate_left
  · (intro W hSw; (try dsimp only at hSw); go_simp; try with_reducible rfl)
  try simp only [List.getElem_toArray, List.getElem_cons_zero, List.getElem_cons_succ, Act.put, List.setIfInBounds_toArray, List.set_cons_zero, List.set_cons_succ]
  refine wpAnyH_take (i := 7) (v := ?_) rfl (by kernel_rfl) (by kernel_rfl) (by kernel_rfl) (fun _ _ _ h => h) (Or.inl ⟨by rfl, ?_⟩) (by assumption) ?_
  rotate_left
  · (intro W hSw; (try dsimp only at hSw); go_simp; try with_reducible rfl)
  try simp only [List.getElem_toArray, List.getElem_cons_zero, List.getElem_cons_succ, Act.put, List.setIfInBounds_toArray, List.set_cons_zero, List.set_cons_succ]
  refine wpAnyH_take (i := 8) (v := ?_) rfl (by kernel_rfl) (by kernel_rfl) (by kernel_rfl) (fun _ _ _ h => h) (Or.inl ⟨by rfl, ?_⟩) (by assumption) ?_
  rotate_left
  · (intro W hSw; (try dsimp only at hSw); go_simp; try with_reducible rfl)
  try simp only [List.getElem_toArray, List.getElem_cons_zero, List.getElem_cons_succ, Act.put, List.setIfInBounds_toArray, List.set_cons_zero, List.set_cons_succ]
  refine wpAnyH_take (i := 9) (v := ?_) rfl (by kernel_rfl) (by kernel_rfl) (by kernel_rfl) (fun _ _ _ h => h) (Or.inl ⟨by rfl, ?_⟩) (by assumption) ?_
  rotate_left
  · (intro W hSw; (try dsimp only at hSw); go_simp; try with_reducible rfl)
  try simp only [List.getElem_toArray, List.getElem_cons_zero, List.getElem_cons_succ, Act.put, List.setIfInBounds_toArray, List.set_cons_zero, List.set_cons_succ]
  refine wpAnyH_take (i := 10) (v := ?_) rfl (by kernel_rfl) (by kernel_rfl) (by kernel_rfl) (fun _ _ _ h => h) (Or.inl ⟨by rfl, ?_⟩) (by assumption) ?_
  rotate_left
  · (intro W hSw; (try dsimp only at hSw); go_simp; try with_reducible rfl)
  try simp only [List.getElem_toArray, List.getElem_cons_zero, List.getElem_cons_succ, Act.put, List.setIfInBounds_toArray, List.set_cons_zero, List.set_cons_succ]
  refine wpAnyH_take (i := 11) (v := ?_) rfl (by kernel_rfl) (by kernel_rfl) (by kernel_rfl) (fun _ _ _ h => h) (Or.inl ⟨by rfl, ?_⟩) (by assumption) ?_
  rotate_left
  · (intro W hSw; (try dsimp only at hSw); go_simp; try with_reducible rfl)
  try simp only [List.getElem_toArray, List.getElem_cons_zero, List.getElem_cons_succ, Act.put, List.setIfInBounds_toArray, List.set_cons_zero, List.set_cons_succ]
  refine wpAnyH_take (i := 12) (v := ?_) rfl (by kernel_rfl) (by kernel_rfl) (by kernel_rfl) (fun _ _ _ h => h) (Or.inl ⟨by rfl, ?_⟩) (by assumption) ?_
  rotate_left
  · (intro W hSw; (try dsimp only at hSw); go_simp; try with_reducible rfl)
  try simp only [List.getElem_toArray, List.getElem_cons_zero, List.getElem_cons_succ, Act.put, List.setIfInBounds_toArray, List.set_cons_zero, List.set_cons_succ]
  refine wpAnyH_take (i := 15) (v := ?_) rfl (by kernel_rfl) (by kernel_rfl) (by kernel_rfl) (fun _ _ _ h => h) (Or.inl ⟨by rfl, ?_⟩) (by assumption) ?_
  rotate_left
  · (intro W hSw; (try dsimp only at hSw); go_simp; try with_reducible rfl)
  try simp only [List.getElem_toArray, List.getElem_cons_zero, List.getElem_cons_succ, Act.put, List.setIfInBounds_toArray, List.set_cons_zero, List.set_cons_succ]
  refine wpAnyH_take (i := 16) (v := ?_) rfl (by kernel_rfl) (by kernel_rfl) (by kernel_rfl) (fun _ _ _ h => h) (Or.inl ⟨by rfl, ?_⟩) (by assumption) ?_
  rotate_left
  · (intro W hSw; (try dsimp only at hSw); go_simp; try with_reducible rfl)
  try simp only [List.getElem_toArray, List.getElem_cons_zero, List.getElem_cons_succ, Act.put, List.setIfInBounds_toArray, List.set_cons_zero, List.set_cons_succ]
  refine wpAnyH_take (i := 17) (v := ?_) rfl (by kernel_rfl) (by kernel_rfl) (by kernel_rfl) (fun _ _ _ h => h) (Or.inl ⟨by rfl, ?_⟩) (by assumption) ?_
  rotate_left
  · (intro W hSw; (try dsimp only at hSw); go_simp; try with_reducible rfl)
  try simp only [List.getElem_toArray, List.getElem_cons_zero, List.getElem_cons_succ, Act.put, List.setIfInBounds_toArray, List.set_cons_zero, List.set_cons_succ]
  refine wpAnyH_ready (rs := [5, 13, 18]) (by kernel_rfl) (by simp) ?_
  refine AllReadyH.cons rfl (fun K hK => ?_) ?_
  · simp only [List.getElem_toArray, List.getElem_cons_zero, List.getElem_cons_succ]
    go_simp
    refine hK.out _ _ ?_ (fun hHeld => ?_)
    · (try dsimp only); exact Sy.below ((Below.refl _ _).alloc (‹Mo B w _ ∧ _›).1.size _) hTL hBL ‹Mo B w _ ∧ _›
    clear hK K
    try simp only [List.getElem_toArray, List.getElem_cons_zero, List.getElem_cons_succ, Act.put, List.setIfInBounds_toArray, List.set_cons_zero, List.set_cons_succ]
    refine wpAnyH_ready (rs := [13, 18]) (by kernel_rfl) (by simp) ?_
    refine AllReadyH.cons rfl (fun K hK => ?_) ?_
    · simp only [List.getElem_toArray, List.getElem_cons_zero, List.getElem_cons_succ]
      go_simp
      refine hK.out _ _ ?_ (fun hHeld => ?_)
      · (try dsimp only); assumption
      clear hK K
      try simp only [List.getElem_toArray, List.getElem_cons_zero, List.getElem_cons_succ, Act.put, List.setIfInBounds_toArray, List.set_cons_zero, List.set_cons_succ]
      refine wpAnyH_ready (rs := [14, 18]) (by kernel_rfl) (by simp) ?_
      refine AllReadyH.cons rfl (fun K hK => ?_) ?_
      · refine step_app_row2 rfl (.tmp 105) (.tmp 113) 108 rfl w.heap.size 126 i0 (.agg #[.string ⟨#[]⟩, .int .i64 0]) 24 Try.underlying108 hi0 hz0 hz1 hz2 rfl (.slice (some ⟨w.heap.size, 0, none⟩) 0 0) 0 [] ?_ ?_ 0 (.slice a L cap) L (flatE E) ?_ ?_ ?_ ?_ ?_ ?_ ?_
        · simp [Act.eval, Act.put]; done
        · exact (own_empty _ _ _ _ rfl (Nat.le_refl _)).drew
        · simp [Act.eval, Act.put]; done
        · exact HSRC.out _ (‹Mo B w _ ∧ _›).1
        · exact fun u hu => flatE_one _ u hu
        · unfold maxLen; omega
        · omega
        · exact (‹Mo B w _ ∧ _›).1.size
        intro v5 w5 hown5 hgrow5 hbel5
        have hm5 : Mo B w w5 := (‹Mo B w _ ∧ _›).1.grow hbel5
        have hq5 : w5.heap[B]? = w.heap[B]? := (hbel5.block B hBL).trans (Below.block (((Below.refl w.heap.size w).drew).alloc (Nat.le_refl _) _) B hBL)
        refine hK.out _ _ ?_ (fun hHeld => ?_)
        · (try dsimp only); exact Sy.below hbel5 hTL hBL ‹Mo B w _ ∧ _›
        clear hK K
        try simp only [List.getElem_toArray, List.getElem_cons_zero, List.getElem_cons_succ, Act.put, List.setIfInBounds_toArray, List.set_cons_zero, List.set_cons_succ]
        refine wpAnyH_ready (rs := [18]) (by kernel_rfl) (by simp) ?_
        refine AllReadyH.cons rfl (fun K hK => ?_) AllReadyH.nil
        simp only [List.getElem_toArray, List.getElem_cons_zero, List.getElem_cons_succ]
        go_simp
        refine hK.out _ _ ?_ (fun hHeld => ?_)
        · (try dsimp only); exact Sy.below ((Below.refl _ _).alloc (‹Mo B w _ ∧ _›).1.size _) hTL hBL ‹Mo B w _ ∧ _›
        clear hK K
        try simp only [List.getElem_toArray, List.getElem_cons_zero, List.getElem_cons_succ, Act.put, List.setIfInBounds_toArray, List.set_cons_zero, List.set_cons_succ]
        refine wpAnyH_ready (rs := [19]) (by kernel_rfl) (by simp) ?_
        refine AllReadyH.cons rfl (fun K hK => ?_) AllReadyH.nil
        refine step_app_row2 rfl (.tmp 114) (.tmp 118) 108 rfl w.heap.size 126 i0 (.agg #[.string ⟨#[]⟩, .int .i64 0]) 24 Try.underlying108 hi0 hz0 hz1 hz2 rfl v5 (0 + L) ([] ++ flatE E) ?_ ?_ 0 (.slice (some ⟨w5.heap.size, 0, none⟩) 1 1) 1 [.string s, .int .i64 (kx : Int)] ?_ ?_ ?_ ?_ ?_ ?_ ?_
        · simp [Act.eval, Act.put]; done
        · exact hown5.below2 ((Below.refl _ _).alloc (Nat.le_refl _) _)
        · simp [Act.eval, Act.put]; done
        · exact own_one _ _ _ _ _ rfl
        · exact fun u hu => by (simp only [List.mem_cons, List.not_mem_nil, or_false] at hu; rcases hu with rfl | rfl <;> rfl)
        · unfold maxLen; omega
        · omega
        · exact (‹Mo B w _ ∧ _›).1.size
        intro v8 w8 hown8 hgrow8 hbel8
        have hq8 : w8.heap[B]? = w.heap[B]? := (hbel8.block B hBL).trans ((Below.block ((Below.refl _ w5).alloc (Nat.le_refl _) _) B (by have := hm5.size; omega)).trans hq5)
        have hm8 : Mo B w w8 := (‹Mo B w _ ∧ _›).1.grow hbel8
        obtain ⟨a8, n8, c8, rfl⟩ := own_slice hown8
        have hc8 : w8.cell? ⟨B, kd * 10 + 9, none⟩ = some (.slice a L cap) := (cell_block hq8 _).trans C9.out
        refine hK.out _ _ ?_ (fun hHeld => ?_)
        · (try dsimp only); exact Sy.below hbel8 hTL hBL ‹Mo B w _ ∧ _›
        clear hK K
        try simp only [List.getElem_toArray, List.getElem_cons_zero, List.getElem_cons_succ, Act.put, List.setIfInBounds_toArray, List.set_cons_zero, List.set_cons_succ]
        refine wpAnyH_take (i := 20) (v := ?_) rfl (by kernel_rfl) (by kernel_rfl) (by kernel_rfl) (fun _ _ _ h => h) (Or.inl ⟨by rfl, ?_⟩) (by assumption) ?_
        rotate_left
        · (intro W hSw; (try dsimp only at hSw); go_simp; try with_reducible rfl)
        try simp only [List.getElem_toArray, List.getElem_cons_zero, List.getElem_cons_succ, Act.put, List.setIfInBounds_toArray, List.set_cons_zero, List.set_cons_succ]
        refine wpAnyH_take (i := 21) (v := ?_) rfl (by kernel_rfl) (by kernel_rfl) (by kernel_rfl) (fun _ _ _ h => h) (Or.inl ⟨by rfl, ?_⟩) (by assumption) ?_
        rotate_left
        · (intro W hSw; (try dsimp only at hSw); go_simp; try with_reducible rfl)
        try simp only [List.getElem_toArray, List.getElem_cons_zero, List.getElem_cons_succ, Act.put, List.setIfInBounds_toArray, List.set_cons_zero, List.set_cons_succ]
        refine wpAnyH_ready (rs := [22]) (by kernel_rfl) (by simp) ?_
        refine AllReadyH.cons rfl (fun K hK => ?_) AllReadyH.nil
        simp only [List.getElem_toArray, List.getElem_cons_zero, List.getElem_cons_succ]
        go_simp
        refine hK.out _ _ ?_ (fun hHeld => ?_)
        · (try dsimp only); exact Sy.set hTB ‹Mo B w _ ∧ _› _
        clear hK K
        try simp only [List.getElem_toArray, List.getElem_cons_zero, List.getElem_cons_succ, Act.put, List.setIfInBounds_toArray, List.set_cons_zero, List.set_cons_succ]
        refine wpAnyH_done (by kernel_rfl) ?_ _
        have hRF := Lib.hid ((HRF.out.moEq hm8 hq8).set hd2 (show 9 < 10 by omega) (.slice a8 n8 c8) { G kd with sl := .slice a8 n8 c8, ents := E ++ [(s, kx)] } rfl (ent_of hown8 (G kd) (E ++ [(s, kx)]) (by rw [List.length_append, ← HLE.out]; simp) (by rw [flatE_app, List.nil_append]; rfl)))
        have hMO := Lib.hid ((HM1.out.trans hm8).set (i := kd * 10 + 9) (.slice a8 n8 c8))
        clear hown8 hgrow8 hbel8 hown5 hgrow5 hbel5 hm8 hq8 hm5 hq5 hc8
        go_wp2
        go_ret
        refine ⟨rfl, .slice a8 n8 c8, ?_, hMO.out⟩
        rw [HG.out]
        exact hRF.out
      refine AllReadyH.cons rfl (fun K hK => ?_) AllReadyH.nil
      simp only [List.getElem_toArray, List.getElem_cons_zero, List.getElem_cons_succ]
      go_simp
      refine hK.out _ _ ?_ (fun hHeld => ?_)
      · (try dsimp only); exact Sy.below ((Below.refl _ _).alloc (‹Mo B w _ ∧ _›).1.size _) hTL hBL ‹Mo B w _ ∧ _›
      clear hK K
      try simp only [List.getElem_toArray, List.getElem_cons_zero, List.getElem_cons_succ, Act.put, List.setIfInBounds_toArray, List.set_cons_zero, List.set_cons_succ]
      refine wpAnyH_ready (rs := [14]) (by kernel_rfl) (by simp) ?_
      refine AllReadyH.cons rfl (fun K hK => ?_) AllReadyH.nil
      refine step_app_row2 rfl (.tmp 105) (.tmp 113) 108 rfl w.heap.size 126 i0 (.agg #[.string ⟨#[]⟩, .int .i64 0]) 24 Try.underlying108 hi0 hz0 hz1 hz2 rfl (.slice (some ⟨w.heap.size, 0, none⟩) 0 0) 0 [] ?_ ?_ 0 (.slice a L cap) L (flatE E) ?_ ?_ ?_ ?_ ?_ ?_ ?_
      · simp [Act.eval, Act.put]; done
      · exact ((own_empty _ _ _ _ rfl (Nat.le_refl _)).below2 ((Below.refl _ _).alloc (Nat.le_refl _) _)).drew
      · simp [Act.eval, Act.put]; done
      · exact HSRC.out _ (‹Mo B w _ ∧ _›).1
      · exact fun u hu => flatE_one _ u hu
      · unfold maxLen; omega
      · omega
      · exact (‹Mo B w _ ∧ _›).1.size
      intro v5 w5 hown5 hgrow5 hbel5
      have hm5 : Mo B w w5 := (‹Mo B w _ ∧ _›).1.grow hbel5
      have hq5 : w5.heap[B]? = w.heap[B]? := (hbel5.block B hBL).trans (Below.block ((((Below.refl w.heap.size w).drew).alloc (Nat.le_refl _) _).alloc (by simp) _) B hBL)
      refine hK.out _ _ ?_ (fun hHeld => ?_)
      · (try dsimp only); exact Sy.below hbel5 hTL hBL ‹Mo B w _ ∧ _›
      clear hK K
      try simp only [List.getElem_toArray, List.getElem_cons_zero, List.getElem_cons_succ, Act.put, List.setIfInBounds_toArray, List.set_cons_zero, List.set_cons_succ]
      refine wpAnyH_ready (rs := [19]) (by kernel_rfl) (by simp) ?_
      refine AllReadyH.cons rfl (fun K hK => ?_) AllReadyH.nil
      refine step_app_row2 rfl (.tmp 114) (.tmp 118) 108 rfl w.heap.size 126 i0 (.agg #[.string ⟨#[]⟩, .int .i64 0]) 24 Try.underlying108 hi0 hz0 hz1 hz2 rfl v5 (0 + L) ([] ++ flatE E) ?_ ?_ 0 (.slice (some ⟨(w.heap.size + 1), 0, none⟩) 1 1) 1 [.string s, .int .i64 (kx : Int)] ?_ ?_ ?_ ?_ ?_ ?_ ?_
      · simp [Act.eval, Act.put]; done
      · exact hown5
      · simp [Act.eval, Act.put]; done
      · exact ((own_one _ _ _ _ _ (by simp)).drew.kept hgrow5 (.inr (by simp [Value.ownBlock])))
      · exact fun u hu => by (simp only [List.mem_cons, List.not_mem_nil, or_false] at hu; rcases hu with rfl | rfl <;> rfl)
      · unfold maxLen; omega
      · omega
      · exact (‹Mo B w _ ∧ _›).1.size
      intro v8 w8 hown8 hgrow8 hbel8
      have hq8 : w8.heap[B]? = w.heap[B]? := (hbel8.block B hBL).trans hq5
      have hm8 : Mo B w w8 := (‹Mo B w _ ∧ _›).1.grow hbel8
      obtain ⟨a8, n8, c8, rfl⟩ := own_slice hown8
      have hc8 : w8.cell? ⟨B, kd * 10 + 9, none⟩ = some (.slice a L cap) := (cell_block hq8 _).trans C9.out
      refine hK.out _ _ ?_ (fun hHeld => ?_)
      · (try dsimp only); exact Sy.below hbel8 hTL hBL ‹Mo B w _ ∧ _›
      clear hK K
      try simp only [List.getElem_toArray, List.getElem_cons_zero, List.getElem_cons_succ, Act.put, List.setIfInBounds_toArray, List.set_cons_zero, List.set_cons_succ]
      refine wpAnyH_take (i := 20) (v := ?_) rfl (by kernel_rfl) (by kernel_rfl) (by kernel_rfl) (fun _ _ _ h => h) (Or.inl ⟨by rfl, ?_⟩) (by assumption) ?_
      rotate_left
      · (intro W hSw; (try dsimp only at hSw); go_simp; try with_reducible rfl)
      try simp only [List.getElem_toArray, List.getElem_cons_zero, List.getElem_cons_succ, Act.put, List.setIfInBounds_toArray, List.set_cons_zero, List.set_cons_succ]
      refine wpAnyH_take (i := 21) (v := ?_) rfl (by kernel_rfl) (by kernel_rfl) (by kernel_rfl) (fun _ _ _ h => h) (Or.inl ⟨by rfl, ?_⟩) (by assumption) ?_
      rotate_left
      · (intro W hSw; (try dsimp only at hSw); go_simp; try with_reducible rfl)
      try simp only [List.getElem_toArray, List.getElem_cons_zero, List.getElem_cons_succ, Act.put, List.setIfInBounds_toArray, List.set_cons_zero, List.set_cons_succ]
      refine wpAnyH_ready (rs := [22]) (by kernel_rfl) (by simp) ?_
      refine AllReadyH.cons rfl (fun K hK => ?_) AllReadyH.nil
      simp only [List.getElem_toArray, List.getElem_cons_zero, List.getElem_cons_succ]
      go_simp
      refine hK.out _ _ ?_ (fun hHeld => ?_)
      · (try dsimp only); exact Sy.set hTB ‹Mo B w _ ∧ _› _
      clear hK K
      try simp only [List.getElem_toArray, List.getElem_cons_zero, List.getElem_cons_succ, Act.put, List.setIfInBounds_toArray, List.set_cons_zero, List.set_cons_succ]
      refine wpAnyH_done (by kernel_rfl) ?_ _
      have hRF := Lib.hid ((HRF.out.moEq hm8 hq8).set hd2 (show 9 < 10 by omega) (.slice a8 n8 c8) { G kd with sl := .slice a8 n8 c8, ents := E ++ [(s, kx)] } rfl (ent_of hown8 (G kd) (E ++ [(s, kx)]) (by rw [List.length_append, ← HLE.out]; simp) (by rw [flatE_app, List.nil_append]; rfl)))
      have hMO := Lib.hid ((HM1.out.trans hm8).set (i := kd * 10 + 9) (.slice a8 n8 c8))
      clear hown8 hgrow8 hbel8 hown5 hgrow5 hbel5 hm8 hq8 hm5 hq5 hc8
      go_wp2
      go_ret
      refine ⟨rfl, .slice a8 n8 c8, ?_, hMO.out⟩
      rw [HG.out]
      exact hRF.out
    refine AllReadyH.cons rfl (fun K hK => ?_) AllReadyH.nil
    simp only [List.getElem_toArray, List.getElem_cons_zero, List.getElem_cons_succ]
    go_simp
    refine hK.out _ _ ?_ (fun hHeld => ?_)
    · (try dsimp only); exact Sy.below ((Below.refl _ _).alloc (‹Mo B w _ ∧ _›).1.size _) hTL hBL ‹Mo B w _ ∧ _›
    clear hK K
    try simp only [List.getElem_toArray, List.getElem_cons_zero, List.getElem_cons_succ, Act.put, List.setIfInBounds_toArray, List.set_cons_zero, List.set_cons_succ]
    refine wpAnyH_ready (rs := [13]) (by kernel_rfl) (by simp) ?_
    refine AllReadyH.cons rfl (fun K hK => ?_) AllReadyH.nil
    simp only [List.getElem_toArray, List.getElem_cons_zero, List.getElem_cons_succ]
    go_simp
    refine hK.out _ _ ?_ (fun hHeld => ?_)
    · (try dsimp only); assumption
    clear hK K
    try simp only [List.getElem_toArray, List.getElem_cons_zero, List.getElem_cons_succ, Act.put, List.setIfInBounds_toArray, List.set_cons_zero, List.set_cons_succ]
    refine wpAnyH_ready (rs := [14]) (by kernel_rfl) (by simp) ?_
    refine AllReadyH.cons rfl (fun K hK => ?_) AllReadyH.nil
    refine step_app_row2 rfl (.tmp 105) (.tmp 113) 108 rfl w.heap.size 126 i0 (.agg #[.string ⟨#[]⟩, .int .i64 0]) 24 Try.underlying108 hi0 hz0 hz1 hz2 rfl (.slice (some ⟨w.heap.size, 0, none⟩) 0 0) 0 [] ?_ ?_ 0 (.slice a L cap) L (flatE E) ?_ ?_ ?_ ?_ ?_ ?_ ?_
    · simp [Act.eval, Act.put]; done
    · exact ((own_empty _ _ _ _ rfl (Nat.le_refl _)).below2 ((Below.refl _ _).alloc (Nat.le_refl _) _)).drew
    · simp [Act.eval, Act.put]; done
    · exact HSRC.out _ (‹Mo B w _ ∧ _›).1
    · exact fun u hu => flatE_one _ u hu
    · unfold maxLen; omega
    · omega
    · exact (‹Mo B w _ ∧ _›).1.size
    intro v5 w5 hown5 hgrow5 hbel5
    have hm5 : Mo B w w5 := (‹Mo B w _ ∧ _›).1.grow hbel5
    have hq5 : w5.heap[B]? = w.heap[B]? := (hbel5.block B hBL).trans (Below.block ((((Below.refl w.heap.size w).drew).alloc (Nat.le_refl _) _).alloc (by simp) _) B hBL)
    refine hK.out _ _ ?_ (fun hHeld => ?_)
    · (try dsimp only); exact Sy.below hbel5 hTL hBL ‹Mo B w _ ∧ _›
    clear hK K
    try simp only [List.getElem_toArray, List.getElem_cons_zero, List.getElem_cons_succ, Act.put, List.setIfInBounds_toArray, List.set_cons_zero, List.set_cons_succ]
    refine wpAnyH_ready (rs := [19]) (by kernel_rfl) (by simp) ?_
    refine AllReadyH.cons rfl (fun K hK => ?_) AllReadyH.nil
    refine step_app_row2 rfl (.tmp 114) (.tmp 118) 108 rfl w.heap.size 126 i0 (.agg #[.string ⟨#[]⟩, .int .i64 0]) 24 Try.underlying108 hi0 hz0 hz1 hz2 rfl v5 (0 + L) ([] ++ flatE E) ?_ ?_ 0 (.slice (some ⟨(w.heap.size + 1), 0, none⟩) 1 1) 1 [.string s, .int .i64 (kx : Int)] ?_ ?_ ?_ ?_ ?_ ?_ ?_
    · simp [Act.eval, Act.put]; done
    · exact hown5
    · simp [Act.eval, Act.put]; done
    · exact ((own_one _ _ _ _ _ (by simp)).drew.kept hgrow5 (.inr (by simp [Value.ownBlock])))
    · exact fun u hu => by (simp only [List.mem_cons, List.not_mem_nil, or_false] at hu; rcases hu with rfl | rfl <;> rfl)
    · unfold maxLen; omega
    · omega
    · exact (‹Mo B w _ ∧ _›).1.size
    intro v8 w8 hown8 hgrow8 hbel8
    have hq8 : w8.heap[B]? = w.heap[B]? := (hbel8.block B hBL).trans hq5
    have hm8 : Mo B w w8 := (‹Mo B w _ ∧ _›).1.grow hbel8
    obtain ⟨a8, n8, c8, rfl⟩ := own_slice hown8
    have hc8 : w8.cell? ⟨B, kd * 10 + 9, none⟩ = some (.slice a L cap) := (cell_block hq8 _).trans C9.out
    refine hK.out _ _ ?_ (fun hHeld => ?_)
    · (try dsimp only); exact Sy.below hbel8 hTL hBL ‹Mo B w _ ∧ _›
    clear hK K
    try simp only [List.getElem_toArray, List.getElem_cons_zero, List.getElem_cons_succ, Act.put, List.setIfInBounds_toArray, List.set_cons_zero, List.set_cons_succ]
    refine wpAnyH_take (i := 20) (v := ?_) rfl (by kernel_rfl) (by kernel_rfl) (by kernel_rfl) (fun _ _ _ h => h) (Or.inl ⟨by rfl, ?_⟩) (by assumption) ?_
    rotate_left
    · (intro W hSw; (try dsimp only at hSw); go_simp; try with_reducible rfl)
    try simp only [List.getElem_toArray, List.getElem_cons_zero, List.getElem_cons_succ, Act.put, List.setIfInBounds_toArray, List.set_cons_zero, List.set_cons_succ]
    refine wpAnyH_take (i := 21) (v := ?_) rfl (by kernel_rfl) (by kernel_rfl) (by kernel_rfl) (fun _ _ _ h => h) (Or.inl ⟨by rfl, ?_⟩) (by assumption) ?_
    rotate_left
    · (intro W hSw; (try dsimp only at hSw); go_simp; try with_reducible rfl)
    try simp only [List.getElem_toArray, List.getElem_cons_zero, List.getElem_cons_succ, Act.put, List.setIfInBounds_toArray, List.set_cons_zero, List.set_cons_succ]
    refine wpAnyH_ready (rs := [22]) (by kernel_rfl) (by simp) ?_
    refine AllReadyH.cons rfl (fun K hK => ?_) AllReadyH.nil
    simp only [List.getElem_toArray, List.getElem_cons_zero, List.getElem_cons_succ]
    go_simp
    refine hK.out _ _ ?_ (fun hHeld => ?_)
    · (try dsimp only); exact Sy.set hTB ‹Mo B w _ ∧ _› _
    clear hK K
    try simp only [List.getElem_toArray, List.getElem_cons_zero, List.getElem_cons_succ, Act.put, List.setIfInBounds_toArray, List.set_cons_zero, List.set_cons_succ]
    refine wpAnyH_done (by kernel_rfl) ?_ _
    have hRF := Lib.hid ((HRF.out.moEq hm8 hq8).set hd2 (show 9 < 10 by omega) (.slice a8 n8 c8) { G kd with sl := .slice a8 n8 c8, ents := E ++ [(s, kx)] } rfl (ent_of hown8 (G kd) (E ++ [(s, kx)]) (by rw [List.length_append, ← HLE.out]; simp) (by rw [flatE_app, List.nil_append]; rfl)))
    have hMO := Lib.hid ((HM1.out.trans hm8).set (i := kd * 10 + 9) (.slice a8 n8 c8))
    clear hown8 hgrow8 hbel8 hown5 hgrow5 hbel5 hm8 hq8 hm5 hq5 hc8
    go_wp2
    go_ret
    refine ⟨rfl, .slice a8 n8 c8, ?_, hMO.out⟩
    rw [HG.out]
    exact hRF.out
  refine AllReadyH.cons rfl (fun K hK => ?_) ?_
  · simp only [List.getElem_toArray, List.getElem_cons_zero, List.getElem_cons_succ]
    go_simp
    refine hK.out _ _ ?_ (fun hHeld => ?_)
    · (try dsimp only); assumption
    clear hK K
    try simp only [List.getElem_toArray, List.getElem_cons_zero, List.getElem_cons_succ, Act.put, List.setIfInBounds_toArray, List.set_cons_zero, List.set_cons_succ]
    refine wpAnyH_ready (rs := [5, 18]) (by kernel_rfl) (by simp) ?_
    refine AllReadyH.cons rfl (fun K hK => ?_) ?_
    · simp only [List.getElem_toArray, List.getElem_cons_zero, List.getElem_cons_succ]
      go_simp
      refine hK.out _ _ ?_ (fun hHeld => ?_)
      · (try dsimp only); exact Sy.below ((Below.refl _ _).alloc (‹Mo B w _ ∧ _›).1.size _) hTL hBL ‹Mo B w _ ∧ _›
      clear hK K
      try simp only [List.getElem_toArray, List.getElem_cons_zero, List.getElem_cons_succ, Act.put, List.setIfInBounds_toArray, List.set_cons_zero, List.set_cons_succ]
      refine wpAnyH_ready (rs := [14, 18]) (by kernel_rfl) (by simp) ?_
      refine AllReadyH.cons rfl (fun K hK => ?_) ?_
      · refine step_app_row2 rfl (.tmp 105) (.tmp 113) 108 rfl w.heap.size 126 i0 (.agg #[.string ⟨#[]⟩, .int .i64 0]) 24 Try.underlying108 hi0 hz0 hz1 hz2 rfl (.slice (some ⟨w.heap.size, 0, none⟩) 0 0) 0 [] ?_ ?_ 0 (.slice a L cap) L (flatE E) ?_ ?_ ?_ ?_ ?_ ?_ ?_
        · simp [Act.eval, Act.put]; done
        · exact (own_empty _ _ _ _ rfl (Nat.le_refl _)).drew
        · simp [Act.eval, Act.put]; done
        · exact HSRC.out _ (‹Mo B w _ ∧ _›).1
        · exact fun u hu => flatE_one _ u hu
        · unfold maxLen; omega
        · omega
        · exact (‹Mo B w _ ∧ _›).1.size
        intro v5 w5 hown5 hgrow5 hbel5
        have hm5 : Mo B w w5 := (‹Mo B w _ ∧ _›).1.grow hbel5
        have hq5 : w5.heap[B]? = w.heap[B]? := (hbel5.block B hBL).trans (Below.block (((Below.refl w.heap.size w).drew).alloc (Nat.le_refl _) _) B hBL)
        refine hK.out _ _ ?_ (fun hHeld => ?_)
        · (try dsimp only); exact Sy.below hbel5 hTL hBL ‹Mo B w _ ∧ _›
        clear hK K
        try simp only [List.getElem_toArray, List.getElem_cons_zero, List.getElem_cons_succ, Act.put, List.setIfInBounds_toArray, List.set_cons_zero, List.set_cons_succ]
        refine wpAnyH_ready (rs := [18]) (by kernel_rfl) (by simp) ?_
        refine AllReadyH.cons rfl (fun K hK => ?_) AllReadyH.nil
        simp only [List.getElem_toArray, List.getElem_cons_zero, List.getElem_cons_succ]
        go_simp
        refine hK.out _ _ ?_ (fun hHeld => ?_)
        · (try dsimp only); exact Sy.below ((Below.refl _ _).alloc (‹Mo B w _ ∧ _›).1.size _) hTL hBL ‹Mo B w _ ∧ _›
        clear hK K
        try simp only [List.getElem_toArray, List.getElem_cons_zero, List.getElem_cons_succ, Act.put, List.setIfInBounds_toArray, List.set_cons_zero, List.set_cons_succ]
        refine wpAnyH_ready (rs := [19]) (by kernel_rfl) (by simp) ?_
        refine AllReadyH.cons rfl (fun K hK => ?_) AllReadyH.nil
        refine step_app_row2 rfl (.tmp 114) (.tmp 118) 108 rfl w.heap.size 126 i0 (.agg #[.string ⟨#[]⟩, .int .i64 0]) 24 Try.underlying108 hi0 hz0 hz1 hz2 rfl v5 (0 + L) ([] ++ flatE E) ?_ ?_ 0 (.slice (some ⟨w5.heap.size, 0, none⟩) 1 1) 1 [.string s, .int .i64 (kx : Int)] ?_ ?_ ?_ ?_ ?_ ?_ ?_
        · simp [Act.eval, Act.put]; done
        · exact hown5.below2 ((Below.refl _ _).alloc (Nat.le_refl _) _)
        · simp [Act.eval, Act.put]; done
        · exact own_one _ _ _ _ _ rfl
        · exact fun u hu => by (simp only [List.mem_cons, List.not_mem_nil, or_false] at hu; rcases hu with rfl | rfl <;> rfl)
        · unfold maxLen; omega
        · omega
        · exact (‹Mo B w _ ∧ _›).1.size
        intro v8 w8 hown8 hgrow8 hbel8
        have hq8 : w8.heap[B]? = w.heap[B]? := (hbel8.block B hBL).trans ((Below.block ((Below.refl _ w5).alloc (Nat.le_refl _) _) B (by have := hm5.size; omega)).trans hq5)
        have hm8 : Mo B w w8 := (‹Mo B w _ ∧ _›).1.grow hbel8
        obtain ⟨a8, n8, c8, rfl⟩ := own_slice hown8
        have hc8 : w8.cell? ⟨B, kd * 10 + 9, none⟩ = some (.slice a L cap) := (cell_block hq8 _).trans C9.out
        refine hK.out _ _ ?_ (fun hHeld => ?_)
        · (try dsimp only); exact Sy.below hbel8 hTL hBL ‹Mo B w _ ∧ _›
        clear hK K
        try simp only [List.getElem_toArray, List.getElem_cons_zero, List.getElem_cons_succ, Act.put, List.setIfInBounds_toArray, List.set_cons_zero, List.set_cons_succ]
        refine wpAnyH_take (i := 20) (v := ?_) rfl (by kernel_rfl) (by kernel_rfl) (by kernel_rfl) (fun _ _ _ h => h) (Or.inl ⟨by rfl, ?_⟩) (by assumption) ?_
        rotate_left
        · (intro W hSw; (try dsimp only at hSw); go_simp; try with_reducible rfl)
        try simp only [List.getElem_toArray, List.getElem_cons_zero, List.getElem_cons_succ, Act.put, List.setIfInBounds_toArray, List.set_cons_zero, List.set_cons_succ]
        refine wpAnyH_take (i := 21) (v := ?_) rfl (by kernel_rfl) (by kernel_rfl) (by kernel_rfl) (fun _ _ _ h => h) (Or.inl ⟨by rfl, ?_⟩) (by assumption) ?_
        rotate_left
        · (intro W hSw; (try dsimp only at hSw); go_simp; try with_reducible rfl)
        try simp only [List.getElem_toArray, List.getElem_cons_zero, List.getElem_cons_succ, Act.put, List.setIfInBounds_toArray, List.set_cons_zero, List.set_cons_succ]
        refine wpAnyH_ready (rs := [22]) (by kernel_rfl) (by simp) ?_
        refine AllReadyH.cons rfl (fun K hK => ?_) AllReadyH.nil
        simp only [List.getElem_toArray, List.getElem_cons_zero, List.getElem_cons_succ]
        go_simp
        refine hK.out _ _ ?_ (fun hHeld => ?_)
        · (try dsimp only); exact Sy.set hTB ‹Mo B w _ ∧ _› _
        clear hK K
        try simp only [List.getElem_toArray, List.getElem_cons_zero, List.getElem_cons_succ, Act.put, List.setIfInBounds_toArray, List.set_cons_zero, List.set_cons_succ]
        refine wpAnyH_done (by kernel_rfl) ?_ _
        have hRF := Lib.hid ((HRF.out.moEq hm8 hq8).set hd2 (show 9 < 10 by omega) (.slice a8 n8 c8) { G kd with sl := .slice a8 n8 c8, ents := E ++ [(s, kx)] } rfl (ent_of hown8 (G kd) (E ++ [(s, kx)]) (by rw [List.length_append, ← HLE.out]; simp) (by rw [flatE_app, List.nil_append]; rfl)))
        have hMO := Lib.hid ((HM1.out.trans hm8).set (i := kd * 10 + 9) (.slice a8 n8 c8))
        clear hown8 hgrow8 hbel8 hown5 hgrow5 hbel5 hm8 hq8 hm5 hq5 hc8
        go_wp2
        go_ret
        refine ⟨rfl, .slice a8 n8 c8, ?_, hMO.out⟩
        rw [HG.out]
        exact hRF.out
      refine AllReadyH.cons rfl (fun K hK => ?_) AllReadyH.nil
      simp only [List.getElem_toArray, List.getElem_cons_zero, List.getElem_cons_succ]
      go_simp
      refine hK.out _ _ ?_ (fun hHeld => ?_)
      · (try dsimp only); exact Sy.below ((Below.refl _ _).alloc (‹Mo B w _ ∧ _›).1.size _) hTL hBL ‹Mo B w _ ∧ _›
      clear hK K
      try simp only [List.getElem_toArray, List.getElem_cons_zero, List.getElem_cons_succ, Act.put, List.setIfInBounds_toArray, List.set_cons_zero, List.set_cons_succ]
      refine wpAnyH_ready (rs := [14]) (by kernel_rfl) (by simp) ?_
      refine AllReadyH.cons rfl (fun K hK => ?_) AllReadyH.nil
      refine step_app_row2 rfl (.tmp 105) (.tmp 113) 108 rfl w.heap.size 126 i0 (.agg #[.string ⟨#[]⟩, .int .i64 0]) 24 Try.underlying108 hi0 hz0 hz1 hz2 rfl (.slice (some ⟨w.heap.size, 0, none⟩) 0 0) 0 [] ?_ ?_ 0 (.slice a L cap) L (flatE E) ?_ ?_ ?_ ?_ ?_ ?_ ?_
      · simp [Act.eval, Act.put]; done
      · exact ((own_empty _ _ _ _ rfl (Nat.le_refl _)).below2 ((Below.refl _ _).alloc (Nat.le_refl _) _)).drew
      · simp [Act.eval, Act.put]; done
      · exact HSRC.out _ (‹Mo B w _ ∧ _›).1
      · exact fun u hu => flatE_one _ u hu
      · unfold maxLen; omega
      · omega
      · exact (‹Mo B w _ ∧ _›).1.size
      intro v5 w5 hown5 hgrow5 hbel5
      have hm5 : Mo B w w5 := (‹Mo B w _ ∧ _›).1.grow hbel5
      have hq5 : w5.heap[B]? = w.heap[B]? := (hbel5.block B hBL).trans (Below.block ((((Below.refl w.heap.size w).drew).alloc (Nat.le_refl _) _).alloc (by simp) _) B hBL)
      refine hK.out _ _ ?_ (fun hHeld => ?_)
      · (try dsimp only); exact Sy.below hbel5 hTL hBL ‹Mo B w _ ∧ _›
      clear hK K
      try simp only [List.getElem_toArray, List.getElem_cons_zero, List.getElem_cons_succ, Act.put, List.setIfInBounds_toArray, List.set_cons_zero, List.set_cons_succ]
      refine wpAnyH_ready (rs := [19]) (by kernel_rfl) (by simp) ?_
      refine AllReadyH.cons rfl (fun K hK => ?_) AllReadyH.nil
      refine step_app_row2 rfl (.tmp 114) (.tmp 118) 108 rfl w.heap.size 126 i0 (.agg #[.string ⟨#[]⟩, .int .i64 0]) 24 Try.underlying108 hi0 hz0 hz1 hz2 rfl v5 (0 + L) ([] ++ flatE E) ?_ ?_ 0 (.slice (some ⟨(w.heap.size + 1), 0, none⟩) 1 1) 1 [.string s, .int .i64 (kx : Int)] ?_ ?_ ?_ ?_ ?_ ?_ ?_
      · simp [Act.eval, Act.put]; done
      · exact hown5
      · simp [Act.eval, Act.put]; done
      · exact ((own_one _ _ _ _ _ (by simp)).drew.kept hgrow5 (.inr (by simp [Value.ownBlock])))
      · exact fun u hu => by (simp only [List.mem_cons, List.not_mem_nil, or_false] at hu; rcases hu with rfl | rfl <;> rfl)
      · unfold maxLen; omega
      · omega
      · exact (‹Mo B w _ ∧ _›).1.size
      intro v8 w8 hown8 hgrow8 hbel8
      have hq8 : w8.heap[B]? = w.heap[B]? := (hbel8.block B hBL).trans hq5
      have hm8 : Mo B w w8 := (‹Mo B w _ ∧ _›).1.grow hbel8
      obtain ⟨a8, n8, c8, rfl⟩ := own_slice hown8
      have hc8 : w8.cell? ⟨B, kd * 10 + 9, none⟩ = some (.slice a L cap) := (cell_block hq8 _).trans C9.out
      refine hK.out _ _ ?_ (fun hHeld => ?_)
      · (try dsimp only); exact Sy.below hbel8 hTL hBL ‹Mo B w _ ∧ _›
      clear hK K
      try simp only [List.getElem_toArray, List.getElem_cons_zero, List.getElem_cons_succ, Act.put, List.setIfInBounds_toArray, List.set_cons_zero, List.set_cons_succ]
      refine wpAnyH_take (i := 20) (v := ?_) rfl (by kernel_rfl) (by kernel_rfl) (by kernel_rfl) (fun _ _ _ h => h) (Or.inl ⟨by rfl, ?_⟩) (by assumption) ?_
      rotate_left
      · (intro W hSw; (try dsimp only at hSw); go_simp; try with_reducible rfl)
      try simp only [List.getElem_toArray, List.getElem_cons_zero, List.getElem_cons_succ, Act.put, List.setIfInBounds_toArray, List.set_cons_zero, List.set_cons_succ]
      refine wpAnyH_take (i := 21) (v := ?_) rfl (by kernel_rfl) (by kernel_rfl) (by kernel_rfl) (fun _ _ _ h => h) (Or.inl ⟨by rfl, ?_⟩) (by assumption) ?_
      rotate_left
      · (intro W hSw; (try dsimp only at hSw); go_simp; try with_reducible rfl)
      try simp only [List.getElem_toArray, List.getElem_cons_zero, List.getElem_cons_succ, Act.put, List.setIfInBounds_toArray, List.set_cons_zero, List.set_cons_succ]
      refine wpAnyH_ready (rs := [22]) (by kernel_rfl) (by simp) ?_
      refine AllReadyH.cons rfl (fun K hK => ?_) AllReadyH.nil
      simp only [List.getElem_toArray, List.getElem_cons_zero, List.getElem_cons_succ]
      go_simp
      refine hK.out _ _ ?_ (fun hHeld => ?_)
      · (try dsimp only); exact Sy.set hTB ‹Mo B w _ ∧ _› _
      clear hK K
      try simp only [List.getElem_toArray, List.getElem_cons_zero, List.getElem_cons_succ, Act.put, List.setIfInBounds_toArray, List.set_cons_zero, List.set_cons_succ]
      refine wpAnyH_done (by kernel_rfl) ?_ _
      have hRF := Lib.hid ((HRF.out.moEq hm8 hq8).set hd2 (show 9 < 10 by omega) (.slice a8 n8 c8) { G kd with sl := .slice a8 n8 c8, ents := E ++ [(s, kx)] } rfl (ent_of hown8 (G kd) (E ++ [(s, kx)]) (by rw [List.length_append, ← HLE.out]; simp) (by rw [flatE_app, List.nil_append]; rfl)))
      have hMO := Lib.hid ((HM1.out.trans hm8).set (i := kd * 10 + 9) (.slice a8 n8 c8))
      clear hown8 hgrow8 hbel8 hown5 hgrow5 hbel5 hm8 hq8 hm5 hq5 hc8
      go_wp2
      go_ret
      refine ⟨rfl, .slice a8 n8 c8, ?_, hMO.out⟩
      rw [HG.out]
      exact hRF.out
    refine AllReadyH.cons rfl (fun K hK => ?_) AllReadyH.nil
    simp only [List.getElem_toArray, List.getElem_cons_zero, List.getElem_cons_succ]
    go_simp
    refine hK.out _ _ ?_ (fun hHeld => ?_)
    · (try dsimp only); exact Sy.below ((Below.refl _ _).alloc (‹Mo B w _ ∧ _›).1.size _) hTL hBL ‹Mo B w _ ∧ _›
    clear hK K
    try simp only [List.getElem_toArray, List.getElem_cons_zero, List.getElem_cons_succ, Act.put, List.setIfInBounds_toArray, List.set_cons_zero, List.set_cons_succ]
    refine wpAnyH_ready (rs := [5]) (by kernel_rfl) (by simp) ?_
    refine AllReadyH.cons rfl (fun K hK => ?_) AllReadyH.nil
    simp only [List.getElem_toArray, List.getElem_cons_zero, List.getElem_cons_succ]
    go_simp
    refine hK.out _ _ ?_ (fun hHeld => ?_)
    · (try dsimp only); exact Sy.below ((Below.refl _ _).alloc (‹Mo B w _ ∧ _›).1.size _) hTL hBL ‹Mo B w _ ∧ _›
    clear hK K
    try simp only [List.getElem_toArray, List.getElem_cons_zero, List.getElem_cons_succ, Act.put, List.setIfInBounds_toArray, List.set_cons_zero, List.set_cons_succ]
    refine wpAnyH_ready (rs := [14]) (by kernel_rfl) (by simp) ?_
    refine AllReadyH.cons rfl (fun K hK => ?_) AllReadyH.nil
    refine step_app_row2 rfl (.tmp 105) (.tmp 113) 108 rfl w.heap.size 126 i0 (.agg #[.string ⟨#[]⟩, .int .i64 0]) 24 Try.underlying108 hi0 hz0 hz1 hz2 rfl (.slice (some ⟨(w.heap.size + 1), 0, none⟩) 0 0) 0 [] ?_ ?_ 0 (.slice a L cap) L (flatE E) ?_ ?_ ?_ ?_ ?_ ?_ ?_
    · simp [Act.eval, Act.put]; done
    · exact (own_empty _ _ _ _ (by simp) (by simp)).drew
    · simp [Act.eval, Act.put]; done
    · exact HSRC.out _ (‹Mo B w _ ∧ _›).1
    · exact fun u hu => flatE_one _ u hu
    · unfold maxLen; omega
    · omega
    · exact (‹Mo B w _ ∧ _›).1.size
    intro v5 w5 hown5 hgrow5 hbel5
    have hm5 : Mo B w w5 := (‹Mo B w _ ∧ _›).1.grow hbel5
    have hq5 : w5.heap[B]? = w.heap[B]? := (hbel5.block B hBL).trans (Below.block ((((Below.refl w.heap.size w).drew).alloc (Nat.le_refl _) _).alloc (by simp) _) B hBL)
    refine hK.out _ _ ?_ (fun hHeld => ?_)
    · (try dsimp only); exact Sy.below hbel5 hTL hBL ‹Mo B w _ ∧ _›
    clear hK K
    try simp only [List.getElem_toArray, List.getElem_cons_zero, List.getElem_cons_succ, Act.put, List.setIfInBounds_toArray, List.set_cons_zero, List.set_cons_succ]
    refine wpAnyH_ready (rs := [19]) (by kernel_rfl) (by simp) ?_
    refine AllReadyH.cons rfl (fun K hK => ?_) AllReadyH.nil
    refine step_app_row2 rfl (.tmp 114) (.tmp 118) 108 rfl w.heap.size 126 i0 (.agg #[.string ⟨#[]⟩, .int .i64 0]) 24 Try.underlying108 hi0 hz0 hz1 hz2 rfl v5 (0 + L) ([] ++ flatE E) ?_ ?_ 0 (.slice (some ⟨w.heap.size, 0, none⟩) 1 1) 1 [.string s, .int .i64 (kx : Int)] ?_ ?_ ?_ ?_ ?_ ?_ ?_
    · simp [Act.eval, Act.put]; done
    · exact hown5
    · simp [Act.eval, Act.put]; done
    · exact (((own_one _ _ _ _ _ rfl).below2 ((Below.refl _ _).alloc (Nat.le_refl _) _)).drew.kept hgrow5 (.inr (by simp [Value.ownBlock])))
    · exact fun u hu => by (simp only [List.mem_cons, List.not_mem_nil, or_false] at hu; rcases hu with rfl | rfl <;> rfl)
    · unfold maxLen; omega
    · omega
    · exact (‹Mo B w _ ∧ _›).1.size
    intro v8 w8 hown8 hgrow8 hbel8
    have hq8 : w8.heap[B]? = w.heap[B]? := (hbel8.block B hBL).trans hq5
    have hm8 : Mo B w w8 := (‹Mo B w _ ∧ _›).1.grow hbel8
    obtain ⟨a8, n8, c8, rfl⟩ := own_slice hown8
    have hc8 : w8.cell? ⟨B, kd * 10 + 9, none⟩ = some (.slice a L cap) := (cell_block hq8 _).trans C9.out
    refine hK.out _ _ ?_ (fun hHeld => ?_)
    · (try dsimp only); exact Sy.below hbel8 hTL hBL ‹Mo B w _ ∧ _›
    clear hK K
    try simp only [List.getElem_toArray, List.getElem_cons_zero, List.getElem_cons_succ, Act.put, List.setIfInBounds_toArray, List.set_cons_zero, List.set_cons_succ]
    refine wpAnyH_take (i := 20) (v := ?_) rfl (by kernel_rfl) (by kernel_rfl) (by kernel_rfl) (fun _ _ _ h => h) (Or.inl ⟨by rfl, ?_⟩) (by assumption) ?_
    rotate_left
    · (intro W hSw; (try dsimp only at hSw); go_simp; try with_reducible rfl)
    try simp only [List.getElem_toArray, List.getElem_cons_zero, List.getElem_cons_succ, Act.put, List.setIfInBounds_toArray, List.set_cons_zero, List.set_cons_succ]
    refine wpAnyH_take (i := 21) (v := ?_) rfl (by kernel_rfl) (by kernel_rfl) (by kernel_rfl) (fun _ _ _ h => h) (Or.inl ⟨by rfl, ?_⟩) (by assumption) ?_
    rotate_left
    · (intro W hSw; (try dsimp only at hSw); go_simp; try with_reducible rfl)
    try simp only [List.getElem_toArray, List.getElem_cons_zero, List.getElem_cons_succ, Act.put, List.setIfInBounds_toArray, List.set_cons_zero, List.set_cons_succ]
    refine wpAnyH_ready (rs := [22]) (by kernel_rfl) (by simp) ?_
    refine AllReadyH.cons rfl (fun K hK => ?_) AllReadyH.nil
    simp only [List.getElem_toArray, List.getElem_cons_zero, List.getElem_cons_succ]
    go_simp
    refine hK.out _ _ ?_ (fun hHeld => ?_)
    · (try dsimp only); exact Sy.set hTB ‹Mo B w _ ∧ _› _
    clear hK K
    try simp only [List.getElem_toArray, List.getElem_cons_zero, List.getElem_cons_succ, Act.put, List.setIfInBounds_toArray, List.set_cons_zero, List.set_cons_succ]
    refine wpAnyH_done (by kernel_rfl) ?_ _
    have hRF := Lib.hid ((HRF.out.moEq hm8 hq8).set hd2 (show 9 < 10 by omega) (.slice a8 n8 c8) { G kd with sl := .slice a8 n8 c8, ents := E ++ [(s, kx)] } rfl (ent_of hown8 (G kd) (E ++ [(s, kx)]) (by rw [List.length_append, ← HLE.out]; simp) (by rw [flatE_app, List.nil_append]; rfl)))
    have hMO := Lib.hid ((HM1.out.trans hm8).set (i := kd * 10 + 9) (.slice a8 n8 c8))
    clear hown8 hgrow8 hbel8 hown5 hgrow5 hbel5 hm8 hq8 hm5 hq5 hc8
    go_wp2
    go_ret
    refine ⟨rfl, .slice a8 n8 c8, ?_, hMO.out⟩
    rw [HG.out]
    exact hRF.out
  refine AllReadyH.cons rfl (fun K hK => ?_) AllReadyH.nil
  simp only [List.getElem_toArray, List.getElem_cons_zero, List.getElem_cons_succ]
  go_simp
  refine hK.out _ _ ?_ (fun hHeld => ?_)
  · (try dsimp only); exact Sy.below ((Below.refl _ _).alloc (‹Mo B w _ ∧ _›).1.size _) hTL hBL ‹Mo B w _ ∧ _›
  clear hK K
  try simp only [List.getElem_toArray, List.getElem_cons_zero, List.getElem_cons_succ, Act.put, List.setIfInBounds_toArray, List.set_cons_zero, List.set_cons_succ]
  refine wpAnyH_ready (rs := [5, 13]) (by kernel_rfl) (by simp) ?_
  refine AllReadyH.cons rfl (fun K hK => ?_) ?_
  · simp only [List.getElem_toArray, List.getElem_cons_zero, List.getElem_cons_succ]
    go_simp
    refine hK.out _ _ ?_ (fun hHeld => ?_)
    · (try dsimp only); exact Sy.below ((Below.refl _ _).alloc (‹Mo B w _ ∧ _›).1.size _) hTL hBL ‹Mo B w _ ∧ _›
    clear hK K
    try simp only [List.getElem_toArray, List.getElem_cons_zero, List.getElem_cons_succ, Act.put, List.setIfInBounds_toArray, List.set_cons_zero, List.set_cons_succ]
    refine wpAnyH_ready (rs := [13]) (by kernel_rfl) (by simp) ?_
    refine AllReadyH.cons rfl (fun K hK => ?_) AllReadyH.nil
    simp only [List.getElem_toArray, List.getElem_cons_zero, List.getElem_cons_succ]
    go_simp
    refine hK.out _ _ ?_ (fun hHeld => ?_)
    · (try dsimp only); assumption
    clear hK K
    try simp only [List.getElem_toArray, List.getElem_cons_zero, List.getElem_cons_succ, Act.put, List.setIfInBounds_toArray, List.set_cons_zero, List.set_cons_succ]
    refine wpAnyH_ready (rs := [14]) (by kernel_rfl) (by simp) ?_
    refine AllReadyH.cons rfl (fun K hK => ?_) AllReadyH.nil
    refine step_app_row2 rfl (.tmp 105) (.tmp 113) 108 rfl w.heap.size 126 i0 (.agg #[.string ⟨#[]⟩, .int .i64 0]) 24 Try.underlying108 hi0 hz0 hz1 hz2 rfl (.slice (some ⟨(w.heap.size + 1), 0, none⟩) 0 0) 0 [] ?_ ?_ 0 (.slice a L cap) L (flatE E) ?_ ?_ ?_ ?_ ?_ ?_ ?_
    · simp [Act.eval, Act.put]; done
    · exact (own_empty _ _ _ _ (by simp) (by simp)).drew
    · simp [Act.eval, Act.put]; done
    · exact HSRC.out _ (‹Mo B w _ ∧ _›).1
    · exact fun u hu => flatE_one _ u hu
    · unfold maxLen; omega
    · omega
    · exact (‹Mo B w _ ∧ _›).1.size
    intro v5 w5 hown5 hgrow5 hbel5
    have hm5 : Mo B w w5 := (‹Mo B w _ ∧ _›).1.grow hbel5
    have hq5 : w5.heap[B]? = w.heap[B]? := (hbel5.block B hBL).trans (Below.block ((((Below.refl w.heap.size w).drew).alloc (Nat.le_refl _) _).alloc (by simp) _) B hBL)
    refine hK.out _ _ ?_ (fun hHeld => ?_)
    · (try dsimp only); exact Sy.below hbel5 hTL hBL ‹Mo B w _ ∧ _›
    clear hK K
    try simp only [List.getElem_toArray, List.getElem_cons_zero, List.getElem_cons_succ, Act.put, List.setIfInBounds_toArray, List.set_cons_zero, List.set_cons_succ]
    refine wpAnyH_ready (rs := [19]) (by kernel_rfl) (by simp) ?_
    refine AllReadyH.cons rfl (fun K hK => ?_) AllReadyH.nil
    refine step_app_row2 rfl (.tmp 114) (.tmp 118) 108 rfl w.heap.size 126 i0 (.agg #[.string ⟨#[]⟩, .int .i64 0]) 24 Try.underlying108 hi0 hz0 hz1 hz2 rfl v5 (0 + L) ([] ++ flatE E) ?_ ?_ 0 (.slice (some ⟨w.heap.size, 0, none⟩) 1 1) 1 [.string s, .int .i64 (kx : Int)] ?_ ?_ ?_ ?_ ?_ ?_ ?_
    · simp [Act.eval, Act.put]; done
    · exact hown5
    · simp [Act.eval, Act.put]; done
    · exact (((own_one _ _ _ _ _ rfl).below2 ((Below.refl _ _).alloc (Nat.le_refl _) _)).drew.kept hgrow5 (.inr (by simp [Value.ownBlock])))
    · exact fun u hu => by (simp only [List.mem_cons, List.not_mem_nil, or_false] at hu; rcases hu with rfl | rfl <;> rfl)
    · unfold maxLen; omega
    · omega
    · exact (‹Mo B w _ ∧ _›).1.size
    intro v8 w8 hown8 hgrow8 hbel8
    have hq8 : w8.heap[B]? = w.heap[B]? := (hbel8.block B hBL).trans hq5
    have hm8 : Mo B w w8 := (‹Mo B w _ ∧ _›).1.grow hbel8
    obtain ⟨a8, n8, c8, rfl⟩ := own_slice hown8
    have hc8 : w8.cell? ⟨B, kd * 10 + 9, none⟩ = some (.slice a L cap) := (cell_block hq8 _).trans C9.out
    refine hK.out _ _ ?_ (fun hHeld => ?_)
    · (try dsimp only); exact Sy.below hbel8 hTL hBL ‹Mo B w _ ∧ _›
    clear hK K
    try simp only [List.getElem_toArray, List.getElem_cons_zero, List.getElem_cons_succ, Act.put, List.setIfInBounds_toArray, List.set_cons_zero, List.set_cons_succ]
    refine wpAnyH_take (i := 20) (v := ?_) rfl (by kernel_rfl) (by kernel_rfl) (by kernel_rfl) (fun _ _ _ h => h) (Or.inl ⟨by rfl, ?_⟩) (by assumption) ?_
    rotate_left
    · (intro W hSw; (try dsimp only at hSw); go_simp; try with_reducible rfl)
    try simp only [List.getElem_toArray, List.getElem_cons_zero, List.getElem_cons_succ, Act.put, List.setIfInBounds_toArray, List.set_cons_zero, List.set_cons_succ]
    refine wpAnyH_take (i := 21) (v := ?_) rfl (by kernel_rfl) (by kernel_rfl) (by kernel_rfl) (fun _ _ _ h => h) (Or.inl ⟨by rfl, ?_⟩) (by assumption) ?_
    rotate_left
    · (intro W hSw; (try dsimp only at hSw); go_simp; try with_reducible rfl)
    try simp only [List.getElem_toArray, List.getElem_cons_zero, List.getElem_cons_succ, Act.put, List.setIfInBounds_toArray, List.set_cons_zero, List.set_cons_succ]
    refine wpAnyH_ready (rs := [22]) (by kernel_rfl) (by simp) ?_
    refine AllReadyH.cons rfl (fun K hK => ?_) AllReadyH.nil
    simp only [List.getElem_toArray, List.getElem_cons_zero, List.getElem_cons_succ]
    go_simp
    refine hK.out _ _ ?_ (fun hHeld => ?_)
    · (try dsimp only); exact Sy.set hTB ‹Mo B w _ ∧ _› _
    clear hK K
    try simp only [List.getElem_toArray, List.getElem_cons_zero, List.getElem_cons_succ, Act.put, List.setIfInBounds_toArray, List.set_cons_zero, List.set_cons_succ]
    refine wpAnyH_done (by kernel_rfl) ?_ _
    have hRF := Lib.hid ((HRF.out.moEq hm8 hq8).set hd2 (show 9 < 10 by omega) (.slice a8 n8 c8) { G kd with sl := .slice a8 n8 c8, ents := E ++ [(s, kx)] } rfl (ent_of hown8 (G kd) (E ++ [(s, kx)]) (by rw [List.length_append, ← HLE.out]; simp) (by rw [flatE_app, List.nil_append]; rfl)))
    have hMO := Lib.hid ((HM1.out.trans hm8).set (i := kd * 10 + 9) (.slice a8 n8 c8))
    clear hown8 hgrow8 hbel8 hown5 hgrow5 hbel5 hm8 hq8 hm5 hq5 hc8
    go_wp2
    go_ret
    refine ⟨rfl, .slice a8 n8 c8, ?_, hMO.out⟩
    rw [HG.out]
    exact hRF.out
  refine AllReadyH.cons rfl (fun K hK => ?_) AllReadyH.nil
  simp only [List.getElem_toArray, List.getElem_cons_zero, List.getElem_cons_succ]
  go_simp
  refine hK.out _ _ ?_ (fun hHeld => ?_)
  · (try dsimp only); assumption
  clear hK K
  try simp only [List.getElem_toArray, List.getElem_cons_zero, List.getElem_cons_succ, Act.put, List.setIfInBounds_toArray, List.set_cons_zero, List.set_cons_succ]
  refine wpAnyH_ready (rs := [5]) (by kernel_rfl) (by simp) ?_
  refine AllReadyH.cons rfl (fun K hK => ?_) AllReadyH.nil
  simp only [List.getElem_toArray, List.getElem_cons_zero, List.getElem_cons_succ]
  go_simp
  refine hK.out _ _ ?_ (fun hHeld => ?_)
  · (try dsimp only); exact Sy.below ((Below.refl _ _).alloc (‹Mo B w _ ∧ _›).1.size _) hTL hBL ‹Mo B w _ ∧ _›
  clear hK K
  try simp only [List.getElem_toArray, List.getElem_cons_zero, List.getElem_cons_succ, Act.put, List.setIfInBounds_toArray, List.set_cons_zero, List.set_cons_succ]
  refine wpAnyH_ready (rs := [14]) (by kernel_rfl) (by simp) ?_
  refine AllReadyH.cons rfl (fun K hK => ?_) AllReadyH.nil
  refine step_app_row2 rfl (.tmp 105) (.tmp 113) 108 rfl w.heap.size 126 i0 (.agg #[.string ⟨#[]⟩, .int .i64 0]) 24 Try.underlying108 hi0 hz0 hz1 hz2 rfl (.slice (some ⟨(w.heap.size + 1), 0, none⟩) 0 0) 0 [] ?_ ?_ 0 (.slice a L cap) L (flatE E) ?_ ?_ ?_ ?_ ?_ ?_ ?_
  · simp [Act.eval, Act.put]; done
  · exact (own_empty _ _ _ _ (by simp) (by simp)).drew
  · simp [Act.eval, Act.put]; done
  · exact HSRC.out _ (‹Mo B w _ ∧ _›).1
  · exact fun u hu => flatE_one _ u hu
  · unfold maxLen; omega
  · omega
  · exact (‹Mo B w _ ∧ _›).1.size
  intro v5 w5 hown5 hgrow5 hbel5
  have hm5 : Mo B w w5 := (‹Mo B w _ ∧ _›).1.grow hbel5
  have hq5 : w5.heap[B]? = w.heap[B]? := (hbel5.block B hBL).trans (Below.block ((((Below.refl w.heap.size w).drew).alloc (Nat.le_refl _) _).alloc (by simp) _) B hBL)
  refine hK.out _ _ ?_ (fun hHeld => ?_)
  · (try dsimp only); exact Sy.below hbel5 hTL hBL ‹Mo B w _ ∧ _›
  clear hK K
  try simp only [List.getElem_toArray, List.getElem_cons_zero, List.getElem_cons_succ, Act.put, List.setIfInBounds_toArray, List.set_cons_zero, List.set_cons_succ]
  refine wpAnyH_ready (rs := [19]) (by kernel_rfl) (by simp) ?_
  refine AllReadyH.cons rfl (fun K hK => ?_) AllReadyH.nil
  refine step_app_row2 rfl (.tmp 114) (.tmp 118) 108 rfl w.heap.size 126 i0 (.agg #[.string ⟨#[]⟩, .int .i64 0]) 24 Try.underlying108 hi0 hz0 hz1 hz2 rfl v5 (0 + L) ([] ++ flatE E) ?_ ?_ 0 (.slice (some ⟨w.heap.size, 0, none⟩) 1 1) 1 [.string s, .int .i64 (kx : Int)] ?_ ?_ ?_ ?_ ?_ ?_ ?_
  · simp [Act.eval, Act.put]; done
  · exact hown5
  · simp [Act.eval, Act.put]; done
  · exact (((own_one _ _ _ _ _ rfl).below2 ((Below.refl _ _).alloc (Nat.le_refl _) _)).drew.kept hgrow5 (.inr (by simp [Value.ownBlock])))
  · exact fun u hu => by (simp only [List.mem_cons, List.not_mem_nil, or_false] at hu; rcases hu with rfl | rfl <;> rfl)
  · unfold maxLen; omega
  · omega
  · exact (‹Mo B w _ ∧ _›).1.size
  intro v8 w8 hown8 hgrow8 hbel8
  have hq8 : w8.heap[B]? = w.heap[B]? := (hbel8.block B hBL).trans hq5
  have hm8 : Mo B w w8 := (‹Mo B w _ ∧ _›).1.grow hbel8
  obtain ⟨a8, n8, c8, rfl⟩ := own_slice hown8
  have hc8 : w8.cell? ⟨B, kd * 10 + 9, none⟩ = some (.slice a L cap) := (cell_block hq8 _).trans C9.out
  refine hK.out _ _ ?_ (fun hHeld => ?_)
  · (try dsimp only); exact Sy.below hbel8 hTL hBL ‹Mo B w _ ∧ _›
  clear hK K
  try simp only [List.getElem_toArray, List.getElem_cons_zero, List.getElem_cons_succ, Act.put, List.setIfInBounds_toArray, List.set_cons_zero, List.set_cons_succ]
  refine wpAnyH_take (i := 20) (v := ?_) rfl (by kernel_rfl) (by kernel_rfl) (by kernel_rfl) (fun _ _ _ h => h) (Or.inl ⟨by rfl, ?_⟩) (by assumption) ?_
  rotate_left
  · (intro W hSw; (try dsimp only at hSw); go_simp; try with_reducible rfl)
  try simp only [List.getElem_toArray, List.getElem_cons_zero, List.getElem_cons_succ, Act.put, List.setIfInBounds_toArray, List.set_cons_zero, List.set_cons_succ]
  refine wpAnyH_take (i := 21) (v := ?_) rfl (by kernel_rfl) (by kernel_rfl) (by kernel_rfl) (fun _ _ _ h => h) (Or.inl ⟨by rfl, ?_⟩) (by assumption) ?_
  rotate_left
  · (intro W hSw; (try dsimp only at hSw); go_simp; try with_reducible rfl)
  try simp only [List.getElem_toArray, List.getElem_cons_zero, List.getElem_cons_succ, Act.put, List.setIfInBounds_toArray, List.set_cons_zero, List.set_cons_succ]
  refine wpAnyH_ready (rs := [22]) (by kernel_rfl) (by simp) ?_
  refine AllReadyH.cons rfl (fun K hK => ?_) AllReadyH.nil
  simp only [List.getElem_toArray, List.getElem_cons_zero, List.getElem_cons_succ]
  go_simp
  refine hK.out _ _ ?_ (fun hHeld => ?_)
  · (try dsimp only); exact Sy.set hTB ‹Mo B w _ ∧ _› _
  clear hK K
  try simp only [List.getElem_toArray, List.getElem_cons_zero, List.getElem_cons_succ, Act.put, List.setIfInBounds_toArray, List.set_cons_zero, List.set_cons_succ]
  refine wpAnyH_done (by kernel_rfl) ?_ _
  have hRF := Lib.hid ((HRF.out.moEq hm8 hq8).set hd2 (show 9 < 10 by omega) (.slice a8 n8 c8) { G kd with sl := .slice a8 n8 c8, ents := E ++ [(s, kx)] } rfl (ent_of hown8 (G kd) (E ++ [(s, kx)]) (by rw [List.length_append, ← HLE.out]; simp) (by rw [flatE_app, List.nil_append]; rfl)))
  have hMO := Lib.hid ((HM1.out.trans hm8).set (i := kd * 10 + 9) (.slice a8 n8 c8))
  clear hown8 hgrow8 hbel8 hown5 hgrow5 hbel5 hm8 hq8 hm5 hq5 hc8
  go_wp2
  go_ret
  refine ⟨rfl, .slice a8 n8 c8, ?_, hMO.out⟩
  rw [HG.out]
  exact hRF.out
end Go.Proofs.Ytafonmnfeibaiaa.RF
