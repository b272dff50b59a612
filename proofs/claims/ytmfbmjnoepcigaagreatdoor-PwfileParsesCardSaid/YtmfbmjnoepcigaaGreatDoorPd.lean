import Derived.Test.YtmfbmjnoepcigaaGreatDoorPc
namespace Go.Proofs.YtmfbmjnoepcigaaGreatDoor.Pp
open Go.RowKit Go.Shelf
attribute [local go_sem] Oper.semAt_some

def kept (xs : List ByteArray) : List ByteArray := xs.filter fun x => decide (¬ x.data.toList = [46])
def lastOf (xs : List ByteArray) : ByteArray := (xs.getLast?).getD ⟨#[]⟩
theorem kept_yes (xs : List ByteArray) (x : ByteArray) (h : ¬ x.data.toList = [46]) : kept (xs ++ [x]) = kept xs ++ [x] := by simp [kept, List.filter_append, h]
theorem kept_no (xs : List ByteArray) (x : ByteArray) (h : x.data.toList = [46]) : kept (xs ++ [x]) = kept xs := by simp [kept, List.filter_append, h]
theorem kept_len (xs : List ByteArray) : (kept xs).length ≤ xs.length := List.length_filter_le _ _
theorem last_app (xs : List ByteArray) (x : ByteArray) : lastOf (xs ++ [x]) = x := by simp [lastOf]

theorem own_same {W W' : World} {base n : Nat} {v : Value} {xs : List Value} (h : W.ownsRow base 9 1 v n xs) (hs : ∀ g o, base ≤ g → W.heap[g]? = some o → W'.heap[g]? = some o) : W'.ownsRow base 9 1 v n xs := by
  obtain ⟨h1, ⟨h2, h3⟩ | ⟨g, cap, cur, h2, hb, hh, rest⟩⟩ := h
  · exact ⟨h1, .inl ⟨h2, h3⟩⟩
  · exact ⟨h1, .inr ⟨g, cap, cur, h2, hb, hs g _ hb hh, rest⟩⟩

/-- What Split holds between two rounds, behind the names xs. -/
structure SI (w0 : World) (abs dir : Bool) (lp : Obj) (xs : List ByteArray) (W : World) : Prop where
  below : Below w0.heap.size w0 W
  res : W.heap[w0.heap.size]? = some (.cells #[.bool false, .slice none 0 0, .bool false] 72 (0, 0))
  err : W.heap[w0.heap.size + 1]? = some (.cells #[.int .i64 0] 24 (0, 0))
  p : ∃ v, W.heap[w0.heap.size + 2]? = some (.cells #[.bool abs, v, .bool dir] 72 (0, 0)) ∧ W.ownsRow (w0.heap.size + 7) 9 1 v (kept xs).length ((kept xs).map .string)
  last : W.heap[w0.heap.size + 3]? = some (.cells #[.string (lastOf xs)] 9 (0, 0))
  dfr : W.heap[w0.heap.size + 5]? = some (.deferred (some []))
  loop : W.heap[w0.heap.size + 6]? = some lp
  size : w0.heap.size + 7 ≤ W.heap.size

theorem SI.turn {w0 W W' : World} {abs dir : Bool} {lp : Obj} {xs : List ByteArray} (h : SI w0 abs dir lp xs W) (hs : ∀ g o, g ≠ w0.heap.size + 4 → W.heap[g]? = some o → W'.heap[g]? = some o) (hb : Below w0.heap.size W W') : SI w0 abs dir lp xs W' where
  below := h.below.trans hb
  res := hs _ _ (by omega) h.res
  err := hs _ _ (by omega) h.err
  p := by obtain ⟨v, h1, h2⟩ := h.p; exact ⟨v, hs _ _ (by omega) h1, own_same h2 (fun g o hg => hs g o (by omega))⟩
  last := hs _ _ (by omega) h.last
  dfr := hs _ _ (by omega) h.dfr
  loop := hs _ _ (by omega) h.loop
  size := Nat.le_trans h.size hb.size
theorem SI.setOwn {w0 W : World} {abs dir : Bool} {lp : Obj} {xs : List ByteArray} (h : SI w0 abs dir lp xs W) (v : Value) : SI w0 abs dir lp xs (W.setCell ⟨w0.heap.size + 4, 0, none⟩ v) :=
  h.turn (fun g o hg ho => by rw [Below.heap_setCell _ _ _ _ hg]; exact ho) ((Below.refl _ _).setCell (by simp) _)
theorem SI.drewN {w0 W : World} {abs dir : Bool} {lp : Obj} {xs : List ByteArray} (h : SI w0 abs dir lp xs W) (q : Nat) : SI w0 abs dir lp xs (W.drewN q) :=
  h.turn (fun _ _ _ ho => ho) ⟨rfl, rfl, rfl, Nat.le_refl _, fun _ _ => rfl⟩
theorem SI.alloc {w0 W : World} {abs dir : Bool} {lp : Obj} {xs : List ByteArray} (h : SI w0 abs dir lp xs W) (o : Obj) : SI w0 abs dir lp xs (W.alloc o) :=
  h.turn (fun g o' _ ho => by rw [Below.heap_alloc _ _ _ (Array.getElem?_eq_some_iff.1 ho).1]; exact ho) ((Below.refl _ _).alloc (by have := h.size; omega) _)
theorem SI.put {w0 W : World} {abs dir : Bool} {lp : Obj} {xs : List ByteArray} (h : SI w0 abs dir lp xs W) (lp' : Obj) : SI w0 abs dir lp' xs (W.putObj (w0.heap.size + 6) lp') where
  below := h.below.trans ⟨rfl, rfl, rfl, by simp, fun k hk => World.putObj_heap_other (by omega)⟩
  res := (World.putObj_heap_other (by omega)).trans h.res
  err := (World.putObj_heap_other (by omega)).trans h.err
  p := by
    obtain ⟨v, h1, h2⟩ := h.p
    exact ⟨v, (World.putObj_heap_other (by omega)).trans h1, own_same h2 (fun g o hg ho => (World.putObj_heap_other (by omega)).trans ho)⟩
  last := (World.putObj_heap_other (by omega)).trans h.last
  dfr := (World.putObj_heap_other (by omega)).trans h.dfr
  loop := World.putObj_heap_same (by have := h.size; omega)
  size := by rw [World.putObj_size]; exact h.size

theorem heap_cell {w : World} {b : Nat} {C : Array Value} {T : TypeId} {f : Nat × Nat} (h : w.heap[b]? = some (.cells C T f)) (i : Nat) : w.cell? ⟨b, i, none⟩ = C[i]? := by simp [World.cell?, h]
theorem heap_free {w : World} {b : Nat} {C : Array Value} {T : TypeId} (h : w.heap[b]? = some (.cells C T (0, 0))) (i : Nat) : w.frozen? ⟨b, i, none⟩ = false := by simp [World.frozen?, h]

set_option maxHeartbeats 400000 in
theorem mk_names (s : ByteArray) (w : World) :
    Calls Tryz.prog 83 #[.string s] w fun e w' => e = .returned (.func (.func 101) #[] #[.pointer (some ⟨w.heap.size, 0, none⟩)]) ∧ w' = w.alloc (.cells #[.string s] 9) := by
  go_enter Tryz.func83, Tryz.ntmps83
  go_wp2
  go_ret
  exact ⟨rfl, rfl⟩

def splitPost (s : ByteArray) (w : World) (e : Ending) (w' : World) : Prop :=
  ∃ (abs dir : Bool) (v : Value) (l : List ByteArray) (err : Int), e = .returned (.tuple #[.agg #[.bool abs, v, .bool dir], .int .i64 err]) ∧ w'.ownsRow w.heap.size 9 1 v l.length (l.map .string) ∧ Below w.heap.size w w' ∧
    splitS s.data.toList = (abs, dir, l.map (fun x : ByteArray => x.data.toList), err)

/-- A range over the names: what is asked is the one call of the iterator. -/
theorem range_names {g : Operand} {ps : Array Tmp} {assign body : Code} {Q : Exit → Act → World → Prop} {a : Act} (W : World) (ptr : Value) (hg : a.eval g = .func (.func 101) #[] #[ptr])
    (hcall : ∀ fn : FuncId, CallsIn Fence.wide 2 Tryz.prog 101 #[.func (.yield (W.heap.size + 1)) #[] #[], ptr]
      ((W.alloc (.deferred (some []))).alloc (.loop { state := .ready, pending := none, fn, tmps := a.tmps, params := ps, assign, body, defers := W.heap.size }))
      (rangePost Fence.wide 3 Tryz.prog (W.heap.size + 1) Q { a with defers := [{ target := .collected W.heap.size, args := #[] }] ++ a.defers })) :
    (Code.rangeFunc g ps assign body).wpIn Fence.wide 3 Tryz.prog Q a W := by
  refine wpIn_rangeFunc (fun fn _ => ?_)
  obtain ⟨W1, hW1⟩ : ∃ W1, (W.alloc (.deferred (some []))).alloc (.loop { state := .ready, pending := none, fn, tmps := a.tmps, params := ps, assign, body, defers := W.heap.size }) = W1 := ⟨_, rfl⟩
  have hc := hcall fn
  rw [hW1] at hc
  refine ⟨W.heap.size + 1, [{ target := .collected W.heap.size, args := #[] }], W1, { target := .fn (.func 101) #[ptr], args := #[.func (.yield (W.heap.size + 1)) #[] #[]] }, W1, 101, #[.func (.yield (W.heap.size + 1)) #[] #[], ptr], W1, ?_, ?_, fun _ _ => trivial, ?_, fun h => (by cases h), hc⟩
  · rw [← hW1]; exact run_enterLoop_outer _ _ _ _ _
  · simp only [resolve, hg]
    simp [go_sem]
  · have he := enters_of (P := Tryz.prog) Tryz.func101 (by kernel_rfl) rfl
    simp [invoke, go_sem, he]

theorem below_put {n : Nat} {w W : World} {l : Nat} {o : Obj} (h : Below n w W) (hl : n ≤ l) : Below n w (W.putObj l o) :=
  h.trans ⟨rfl, rfl, rfl, by simp, fun k hk => World.putObj_heap_other (by omega)⟩
theorem push7 (h : Array Obj) (a b c d e f g : Obj) :
    let H := ((((((h.push a).push b).push c).push d).push e).push f).push g
    H[h.size]? = some a ∧ H[h.size + 1]? = some b ∧ H[h.size + 2]? = some c ∧ H[h.size + 3]? = some d ∧ H[h.size + 4]? = some e ∧ H[h.size + 5]? = some f ∧ H[h.size + 6]? = some g := by
  simp only [Array.getElem?_push, Array.size_push]
  refine ⟨?_, ?_, ?_, ?_, ?_, ?_, ?_⟩ <;> repeat (first | rw [if_pos trivial] | rw [if_neg (by omega)] | rw [if_pos (by omega)])

/-- Split has met a name that is too long. -/
def Stop (w0 : World) (s : ByteArray) (r : Loop) (W : World) : Prop :=
  Below w0.heap.size w0 W ∧ W.heap[w0.heap.size]? = some (.cells #[.bool false, .slice none 0 0, .bool false] 72 (0, 0)) ∧ W.heap[w0.heap.size + 1]? = some (.cells #[.int .i64 10] 24 (0, 0)) ∧
  W.heap[w0.heap.size + 5]? = some (.deferred (some [])) ∧ W.heap[w0.heap.size + 6]? = some (.loop { r with state := .done, pending := some .ret }) ∧ (∃ x ∈ parts s.data.toList, 14 < x.length)
def Short (xs : List ByteArray) : Prop := ∀ x ∈ xs, x.size ≤ 14
def roundR (w0 : World) (s : ByteArray) (abs dir : Bool) (r : Loop) (pre : List ByteArray) (x : ByteArray) (W : World) (e : Ending) (W' : World) : Prop :=
  (e = .returned (.bool true) ∧ (SI w0 abs dir (.loop r) (pre ++ [x]) W' ∧ Short (pre ++ [x])) ∧ W'.heap[w0.heap.size + 4]? = W.heap[w0.heap.size + 4]?) ∨ (e = .returned (.bool false) ∧ Stop w0 s r W')

theorem iter_calls (w0 : World) (s : ByteArray) (hs : s.size ≤ 128) (abs dir : Bool) (r : Loop) (hp : r.params.size = 1) (W : World) (h : SI w0 abs dir (.loop r) [] ((W.alloc (.deferred (some []))).alloc (.loop r)))
    (hc : ((W.alloc (.deferred (some []))).alloc (.loop r)).heap[w0.heap.size + 4]? = some (.cells #[.string s] 9 (0, 0)))
    (hR : ∀ pre x W, SI w0 abs dir (.loop r) pre W → Short pre → x.data.toList ∈ parts s.data.toList → x.size ≤ 128 → pre.length < 128 →
      RoundIn Fence.wide 1 Tryz.prog (w0.heap.size + 6) r.fn ((r.params.zip #[.string x]).foldl (fun t (p, v) => t.setIfInBounds p v) r.tmps) r.assign r.body W (roundR w0 s abs dir r pre x W)) :
    CallsIn Fence.wide 2 Tryz.prog 101 #[.func (.yield (w0.heap.size + 6)) #[] #[], .pointer (some ⟨w0.heap.size + 4, 0, none⟩)] ((W.alloc (.deferred (some []))).alloc (.loop r)) fun e W' => (∃ v, e = .returned v) ∧
      ((∃ xs, xs.map (fun x : ByteArray => x.data.toList) = parts s.data.toList ∧ SI w0 abs dir (.loop r) xs W' ∧ Short xs) ∨ Stop w0 s r W') := by
  refine names_in 2 (w0.heap.size + 6) (w0.heap.size + 4) s (fun xs W => SI w0 abs dir (.loop r) xs W ∧ Short xs) (Stop w0 s r) (by omega) ?_ (fun pre W v hh => ⟨hh.1.setOwn v, hh.2⟩) (fun pre W q hh => ⟨hh.1.drewN q, hh.2⟩) _ (heap_cell hc 0) (heap_free hc 0) ⟨h, fun x hx => by cases hx⟩
  intro pre x W hh hx hsz hlen
  exact ⟨r.fn, _, r.assign, r.body, run_yield hh.1.loop (by rw [hp]; rfl), hR pre x W hh.1 hh.2 hx (by omega) (by omega)⟩

theorem short_app {pre : List ByteArray} {x : ByteArray} (h : Short pre) (hx : ¬ 14 < x.size) : Short (pre ++ [x]) := fun y hy => by
  rcases List.mem_append.1 hy with h1 | h1
  · exact h y h1
  · have : y = x := by simpa using h1
    rw [this]; omega
theorem begin_round {w0 W : World} {abs dir : Bool} {r : Loop} {pre : List ByteArray} (h : SI w0 abs dir (.loop r) pre W) (hr : r.state = .ready) {K : World → Prop}
    (hK : ∀ W3, SI w0 abs dir (.loop { r with state := .busy }) pre W3 → W3.heap[w0.heap.size + 4]? = W.heap[w0.heap.size + 4]? → K W3) : ∃ w₂, (Instr.beginRound (w0.heap.size + 6)).run Tryz.prog W = .ok () w₂ ∧ K w₂ :=
  ⟨_, run_beginRound h.loop hr, hK _ (h.put _) (World.putObj_heap_other (by omega))⟩
theorem set_same {w : World} {b i : Nat} {C : Array Value} {T : TypeId} {f : Nat × Nat} (h : w.heap[b]? = some (.cells C T f)) (v : Value) : (w.setCell ⟨b, i, none⟩ v).heap[b]? = some (.cells (C.setIfInBounds i v) T f) := by
  simp [World.setCell, Array.getElem?_modify, h]
theorem set_other {w : World} {b c i : Nat} {o : Obj} (h : w.heap[c]? = some o) (v : Value) (hne : c ≠ b) : (w.setCell ⟨b, i, none⟩ v).heap[c]? = some o := by
  rw [Below.heap_setCell _ _ _ _ hne]; exact h
/-- The round in which a name is too long. -/
theorem SI.stopped {w0 W2 W : World} {s : ByteArray} {abs dir : Bool} {r : Loop} {pre : List ByteArray} {x : ByteArray} (h : SI w0 abs dir (.loop { r with state := .busy }) pre W) (hx : x.data.toList ∈ parts s.data.toList) (hl : 14 < x.size) :
    ∃ v w', (Instr.endRound (w0.heap.size + 6) (some .ret)).run Tryz.prog ((((W.setCell ⟨w0.heap.size, 0, none⟩ (.bool false)).setCell ⟨w0.heap.size, 1, none⟩ (.slice none 0 0)).setCell ⟨w0.heap.size, 2, none⟩ (.bool false)).setCell ⟨w0.heap.size + 1, 0, none⟩ (.int .i64 10)) = .ok v w' ∧ roundR w0 s abs dir r pre x W2 (.returned v) w' := by
  obtain ⟨W5, hW5⟩ : ∃ W5, ((((W.setCell ⟨w0.heap.size, 0, none⟩ (.bool false)).setCell ⟨w0.heap.size, 1, none⟩ (.slice none 0 0)).setCell ⟨w0.heap.size, 2, none⟩ (.bool false)).setCell ⟨w0.heap.size + 1, 0, none⟩ (.int .i64 10)) = W5 := ⟨_, rfl⟩
  have b5 : Below w0.heap.size W W5 := by rw [← hW5]; exact ((((Below.refl _ _).setCell (by simp) _).setCell (by simp) _).setCell (by simp) _).setCell (by simp) _
  have r5 : W5.heap[w0.heap.size]? = some (.cells #[.bool false, .slice none 0 0, .bool false] 72 (0, 0)) := by
    rw [← hW5]; exact set_other (set_same (set_same (set_same h.res _) _) _) _ (by omega)
  have e5 : W5.heap[w0.heap.size + 1]? = some (.cells #[.int .i64 10] 24 (0, 0)) := by
    rw [← hW5]; exact set_same (set_other (set_other (set_other h.err _ (by omega)) _ (by omega)) _ (by omega)) _
  have d5 : W5.heap[w0.heap.size + 5]? = some (.deferred (some [])) := by
    rw [← hW5]; exact set_other (set_other (set_other (set_other h.dfr _ (by omega)) _ (by omega)) _ (by omega)) _ (by omega)
  have l5 : W5.heap[w0.heap.size + 6]? = some (.loop { r with state := .busy }) := by
    rw [← hW5]; exact set_other (set_other (set_other (set_other h.loop _ (by omega)) _ (by omega)) _ (by omega)) _ (by omega)
  rw [hW5]
  refine ⟨_, _, run_endRound (some .ret) l5, .inr ⟨rfl, h.below.trans (b5.trans ⟨rfl, rfl, rfl, by simp, fun k hk => World.putObj_heap_other (by omega)⟩), (World.putObj_heap_other (by omega)).trans r5, (World.putObj_heap_other (by omega)).trans e5, (World.putObj_heap_other (by omega)).trans d5, ?_, x.data.toList, hx, by rw [sz]; exact hl⟩⟩
  exact World.putObj_heap_same (by obtain ⟨h1, _⟩ := Array.getElem?_eq_some_iff.1 l5; exact h1)
/-- A round that goes on. -/
theorem SI.goes {w0 W2 W : World} {s : ByteArray} {abs dir : Bool} {r : Loop} {pre : List ByteArray} {x : ByteArray} (h : SI w0 abs dir (.loop { r with state := .busy }) (pre ++ [x]) W) (hr : r.state = .ready) (hp : r.pending = none) (hsh : Short (pre ++ [x])) (hb : W.heap[w0.heap.size + 4]? = W2.heap[w0.heap.size + 4]?) :
    ∃ v w', (Instr.endRound (w0.heap.size + 6) none).run Tryz.prog W = .ok v w' ∧ roundR w0 s abs dir r pre x W2 (.returned v) w' := by
  refine ⟨_, _, run_endRound none h.loop, .inl ⟨rfl, ⟨?_, hsh⟩, (World.putObj_heap_other (by omega)).trans hb⟩⟩
  have := h.put (.loop r)
  obtain ⟨st, pe, f1, f2, f3, f4, f5, f6⟩ := r
  simp only at hr hp
  subst hr hp
  exact this

theorem SI.lastSet {w0 W : World} {abs dir : Bool} {lp : Obj} {pre : List ByteArray} {x : ByteArray} (h : SI w0 abs dir lp pre W) (hk : kept (pre ++ [x]) = kept pre) : SI w0 abs dir lp (pre ++ [x]) (W.setCell ⟨w0.heap.size + 3, 0, none⟩ (.string x)) where
  below := h.below.setCell (by simp) _
  res := set_other h.res _ (by omega)
  err := set_other h.err _ (by omega)
  p := by
    obtain ⟨v, h1, h2⟩ := h.p
    rw [hk]
    exact ⟨v, set_other h1 _ (by omega), own_same h2 (fun g o hg ho => set_other ho _ (by omega))⟩
  last := by rw [last_app]; exact set_same h.last _
  dfr := set_other h.dfr _ (by omega)
  loop := set_other h.loop _ (by omega)
  size := by simpa [World.setCell] using h.size
theorem SI.own2 {w0 W : World} {v : Value} {k : Nat} {xs : List Value} (h2 : W.ownsRow (w0.heap.size + 7) 9 1 v k xs) (x : ByteArray) : (W.setCell ⟨w0.heap.size + 3, 0, none⟩ (.string x)).ownsRow (w0.heap.size + 7) 9 1 v k xs :=
  own_same h2 (fun g o hg ho => set_other ho _ (by omega))
theorem cell_one_set (W : World) (a : Addr) (u x : Value) : ∀ j y, [x][j]? = some y → ((W.setCell a u).alloc (.cells #[x] 9)).cell? ((⟨W.heap.size, 0, none⟩ : Addr).add j) = some y := by
  intro j y hj
  have h := cell_one_new (W.setCell a u) x 9 j y hj
  have e : (W.setCell a u).heap.size = W.heap.size := by simp [World.setCell]
  rw [e] at h; exact h
theorem SI.appended {w0 W w1 : World} {abs dir : Bool} {lp : Obj} {pre : List ByteArray} {x : ByteArray} {v v' : Value} (h : SI w0 abs dir lp pre W) (hk : kept (pre ++ [x]) = kept pre ++ [x])
    (hp : W.heap[w0.heap.size + 2]? = some (.cells #[.bool abs, v, .bool dir] 72 (0, 0))) (hv : ∀ k, v.ownBlock = some k → w0.heap.size + 7 ≤ k)
    (hg : ((W.setCell ⟨w0.heap.size + 3, 0, none⟩ (.string x)).alloc (.cells #[.string x] 9)).grownBy w1 v.ownBlock)
    (ho : w1.ownsRow (w0.heap.size + 7) 9 1 v' ((kept pre).length + 1) ((kept pre).map .string ++ [.string x])) :
    SI w0 abs dir lp (pre ++ [x]) (w1.setCell ⟨w0.heap.size + 2, 1, none⟩ v') ∧ (w1.setCell ⟨w0.heap.size + 2, 1, none⟩ v').heap[w0.heap.size + 4]? = W.heap[w0.heap.size + 4]? := by
  have hz := h.size
  have hsz : ((W.setCell ⟨w0.heap.size + 3, 0, none⟩ (.string x)).alloc (.cells #[.string x] 9)).heap.size = W.heap.size + 1 := by simp [World.setCell]
  have e3 : (W.setCell ⟨w0.heap.size + 3, 0, none⟩ (.string x)).heap.size = W.heap.size := by simp [World.setCell]
  have old : ∀ k, k < w0.heap.size + 7 → w1.heap[k]? = (W.setCell ⟨w0.heap.size + 3, 0, none⟩ (.string x)).heap[k]? := fun k hk => by
    rw [hg.block k (by rw [hsz]; omega) (fun e => by have := hv k e.symm; omega), Below.heap_alloc _ _ _ (by rw [e3]; omega)]
  have keep : ∀ k o, k < w0.heap.size + 7 → k ≠ w0.heap.size + 3 → W.heap[k]? = some o → w1.heap[k]? = some o := fun k o hk h3 ho => by
    rw [old k hk]; exact set_other ho _ h3
  have hb1 : Below w0.heap.size W w1 := ⟨hg.os, hg.tape, hg.output, by have := hg.size; rw [hsz] at this; omega, fun k hk => by rw [old k (by omega)]; exact Below.heap_setCell _ _ _ _ (by simp; omega)⟩
  refine ⟨⟨h.below.trans (hb1.setCell (by simp) _), set_other (keep _ _ (by omega) (by omega) h.res) _ (by omega), set_other (keep _ _ (by omega) (by omega) h.err) _ (by omega), ?_, ?_, set_other (keep _ _ (by omega) (by omega) h.dfr) _ (by omega), set_other (keep _ _ (by omega) (by omega) h.loop) _ (by omega), ?_⟩, ?_⟩
  · refine ⟨v', set_same (keep _ _ (by omega) (by omega) hp) _, ?_⟩
    rw [hk]
    have h9 : w1.ownsRow (w0.heap.size + 7) 9 1 v' (kept pre ++ [x]).length ((kept pre ++ [x]).map .string) := by simpa using ho
    exact own_same h9 (fun g o hg ho => set_other ho _ (by omega))
  · rw [last_app]
    refine set_other ?_ _ (by omega)
    rw [old _ (by omega)]; exact set_same h.last _
  · have := hg.size; rw [hsz] at this
    simp [World.setCell]; omega
  · rw [Below.heap_setCell _ _ _ _ (by simp), old _ (by omega)]
    exact Below.heap_setCell _ _ _ _ (by simp)

theorem p_kept {w0 W w1 : World} {abs dir : Bool} {v : Value} {x : ByteArray} (hp : W.heap[w0.heap.size + 2]? = some (.cells #[.bool abs, v, .bool dir] 72 (0, 0))) (hz : w0.heap.size + 7 ≤ W.heap.size) (hv : ∀ k, v.ownBlock = some k → w0.heap.size + 7 ≤ k)
    (hg : ((W.setCell ⟨w0.heap.size + 3, 0, none⟩ (.string x)).alloc (.cells #[.string x] 9)).grownBy w1 v.ownBlock) :
    w1.cell? ⟨w0.heap.size + 1 + 1, 1, none⟩ = some v ∧ w1.frozen? ⟨w0.heap.size + 1 + 1, 1, none⟩ = false := by
  have e3 : (W.setCell ⟨w0.heap.size + 3, 0, none⟩ (.string x)).heap.size = W.heap.size := by simp [World.setCell]
  have h1 : w1.heap[w0.heap.size + 2]? = some (.cells #[.bool abs, v, .bool dir] 72 (0, 0)) := by
    rw [hg.block _ (by simp [World.setCell]; omega) (fun e => by have := hv _ e.symm; omega), Below.heap_alloc _ _ _ (by rw [e3]; omega)]
    exact set_other hp _ (by omega)
  exact ⟨heap_cell h1 1, heap_free h1 1⟩

theorem end_loop {w0 W : World} {abs dir : Bool} {r : Loop} {xs : List ByteArray} (h : SI w0 abs dir (.loop r) xs W) (hr : r.state = .ready) (hp : r.pending = none) {K : Option Code → World → Prop}
    (hK : ∀ W4, SI w0 abs dir (.loop { r with state := .exhausted }) xs W4 → K none W4) : ∃ jump w₄, (Instr.endLoop (w0.heap.size + 6)).run Tryz.prog W = .ok jump w₄ ∧ K jump w₄ :=
  ⟨none, _, (run_endLoop h.loop (by rw [hr]; simp)).trans (by rw [hp]), hK _ (h.put _)⟩
theorem last_parts {xs : List ByteArray} {l : List Bytes} (h : xs.map (fun x : ByteArray => x.data.toList) = l) : l.getLast?.getD [] = (lastOf xs).data.toList := by
  rw [← h, List.getLast?_map, lastOf]
  cases xs.getLast? <;> rfl
theorem kept_parts {xs : List ByteArray} {l : List Bytes} (h : xs.map (fun x : ByteArray => x.data.toList) = l) : l.filter (fun x => decide (¬ x = [46])) = (kept xs).map (fun x : ByteArray => x.data.toList) := by
  rw [← h, kept, List.filter_map]; rfl
theorem short_parts {xs : List ByteArray} {l : List Bytes} (h : xs.map (fun x : ByteArray => x.data.toList) = l) (hs : Short xs) : ¬ ∃ x ∈ l, 14 < x.length := by
  rintro ⟨x, hx, hl⟩
  rw [← h] at hx
  obtain ⟨y, hy, rfl⟩ := List.mem_map.1 hx
  have := hs y hy
  rw [sz] at hl; omega
theorem plain_okb (l : Bytes) : plainB l = l.all okb := rfl
theorem split_ok {s : ByteArray} (h0 : ¬ s.data.toList = []) (hs : s.size ≤ 128) {xs : List ByteArray} (h : xs.map (fun x : ByteArray => x.data.toList) = parts s.data.toList) (hsh : Short xs) (hp : plainB s.data.toList = true) :
    splitS s.data.toList = (Lib.hasPrefix s.data.toList [47], Lib.hasSuffix s.data.toList [47] || (((lastOf xs).data.toList == [46]) || ((lastOf xs).data.toList == [46, 46])), (kept xs).map (fun x : ByteArray => x.data.toList), 0) := by
  have e1 : ¬ (128 < s.data.toList.length ∨ ∃ x ∈ parts s.data.toList, 14 < x.length) := by
    rintro (h1 | h1)
    · rw [sz] at h1; omega
    · exact short_parts h hsh h1
  rw [splitS, if_neg h0, if_neg e1, if_neg (by rw [← plain_okb, hp]; simp), last_parts h, kept_parts h]
theorem split_bad {s : ByteArray} (h0 : ¬ s.data.toList = []) (hs : s.size ≤ 128) {xs : List ByteArray} (h : xs.map (fun x : ByteArray => x.data.toList) = parts s.data.toList) (hsh : Short xs) (hp : plainB s.data.toList = false) :
    splitS s.data.toList = (false, false, [], 1) := by
  have e1 : ¬ (128 < s.data.toList.length ∨ ∃ x ∈ parts s.data.toList, 14 < x.length) := by
    rintro (h1 | h1)
    · rw [sz] at h1; omega
    · exact short_parts h hsh h1
  rw [splitS, if_neg h0, if_neg e1, if_pos (by rw [← plain_okb, hp])]
theorem split_long {b : Bytes} (h0 : ¬ b = []) (h : 128 < b.length ∨ ∃ x ∈ parts b, 14 < x.length) : splitS b = (false, false, [], 10) := by
  rw [splitS, if_neg h0, if_pos h]

theorem leave12 {T : Array Value} {W5 : World} (n0 : Nat) {A D : Bool} {V : Value} {E : Int} (hT2 : T[2]? = some (.pointer (some ⟨n0, 0, none⟩))) (hT3 : T[3]? = some (.pointer (some ⟨n0 + 1, 0, none⟩)))
    (hres : W5.heap[n0]? = some (.cells #[.bool A, V, .bool D] 72 (0, 0))) (herr : W5.heap[n0 + 1]? = some (.cells #[.int .i64 E] 24 (0, 0))) (hdfr : W5.heap[n0 + 5]? = some (.deferred (some []))) {R : Ending → World → Prop}
    (hV : ∃ a n c, V = .slice a n c)
    (hR : R (.returned (.tuple #[.agg #[.bool A, V, .bool D], .int .i64 E])) (W5.putObj (n0 + 5) (.deferred none))) :
    bodyPostM Fence.wide 3 Tryz.prog Tryz.f54 R .ret { tmps := T, defers := [{ target := .collected (n0 + 5), args := #[] }] } W5 := by
  obtain ⟨a, n, c, rfl⟩ := hV
  refine ⟨by simp, .inl ⟨_, _, rfl, run_takeDeferred hdfr, ?_⟩⟩
  obtain ⟨W6, hW6⟩ : ∃ W6, W5.putObj (n0 + 5) (.deferred none) = W6 := ⟨_, rfl⟩
  have h0 : W6.heap[n0]? = some (.cells #[.bool A, .slice a n c, .bool D] 72 (0, 0)) := by rw [← hW6]; exact (World.putObj_heap_other (by omega)).trans hres
  have h1 : W6.heap[n0 + 1]? = some (.cells #[.int .i64 E] 24 (0, 0)) := by rw [← hW6]; exact (World.putObj_heap_other (by omega)).trans herr
  rw [hW6] at hR ⊢
  have c0 : W6.cell? ⟨n0, 0, none⟩ = some (.bool A) := heap_cell h0 0
  have c1 : W6.cell? ⟨n0, 1, none⟩ = some (.slice a n c) := heap_cell h0 1
  have c2 : W6.cell? ⟨n0, 2, none⟩ = some (.bool D) := heap_cell h0 2
  have c3 : W6.cell? ⟨n0 + 1, 0, none⟩ = some (.int .i64 E) := heap_cell h1 0
  exact ⟨_, by simp [results, Tryz.results44, go_sem, hT2, hT3, c0, c1, c2, c3], hR⟩

theorem own_base {w : World} {b b' n : Nat} {v : Value} {xs : List Value} (h : w.ownsRow b 9 1 v n xs) (hb : b' ≤ b) : w.ownsRow b' 9 1 v n xs := by
  obtain ⟨h1, h2 | ⟨g, cap, cur, h2, h3, rest⟩⟩ := h
  · exact ⟨h1, .inl h2⟩
  · exact ⟨h1, .inr ⟨g, cap, cur, h2, by omega, rest⟩⟩
/-- The end of Split: the path is told. -/
theorem SI.final {w0 W : World} {s : ByteArray} {abs dir : Bool} {lp : Obj} {xs : List ByteArray} (h : SI w0 abs dir lp xs W) {V : Value} (hV : ∃ a n c, V = .slice a n c) (hown : W.ownsRow (w0.heap.size + 7) 9 1 V (kept xs).length ((kept xs).map .string)) {T : Array Value} (hT2 : T[2]? = some (.pointer (some ⟨w0.heap.size, 0, none⟩))) (hT3 : T[3]? = some (.pointer (some ⟨w0.heap.size + 1, 0, none⟩))) (D : Bool)
    (hs : splitS s.data.toList = (abs, D, (kept xs).map (fun x : ByteArray => x.data.toList), 0)) :
    bodyPostM Fence.wide 3 Tryz.prog Tryz.f54 (splitPost s w0) .ret { tmps := T, defers := [{ target := .collected (w0.heap.size + 5), args := #[] }] }
      (((((W.setCell ⟨w0.heap.size + 2, 2, none⟩ (.bool D)).setCell ⟨w0.heap.size, 0, none⟩ (.bool abs)).setCell ⟨w0.heap.size, 1, none⟩ V).setCell ⟨w0.heap.size, 2, none⟩ (.bool D)).setCell ⟨w0.heap.size + 1, 0, none⟩ (.int .i64 0)) := by
  obtain ⟨W5, hW5⟩ : ∃ W5, (((((W.setCell ⟨w0.heap.size + 2, 2, none⟩ (.bool D)).setCell ⟨w0.heap.size, 0, none⟩ (.bool abs)).setCell ⟨w0.heap.size, 1, none⟩ V).setCell ⟨w0.heap.size, 2, none⟩ (.bool D)).setCell ⟨w0.heap.size + 1, 0, none⟩ (.int .i64 0)) = W5 := ⟨_, rfl⟩
  have other : ∀ g o, g ≠ w0.heap.size → g ≠ w0.heap.size + 1 → g ≠ w0.heap.size + 2 → W.heap[g]? = some o → W5.heap[g]? = some o := fun g o n0 n1 n2 ho => by
    rw [← hW5]; exact set_other (set_other (set_other (set_other (set_other ho _ n2) _ n0) _ n0) _ n0) _ n1
  have b5 : Below w0.heap.size W W5 := by rw [← hW5]; exact (((((Below.refl _ _).setCell (by simp) _).setCell (by simp) _).setCell (by simp) _).setCell (by simp) _).setCell (by simp) _
  have r5 : W5.heap[w0.heap.size]? = some (.cells #[.bool abs, V, .bool D] 72 (0, 0)) := by
    rw [← hW5]; exact set_other (set_same (set_same (set_same (set_other h.res _ (by omega)) _) _) _) _ (by omega)
  have e5 : W5.heap[w0.heap.size + 1]? = some (.cells #[.int .i64 0] 24 (0, 0)) := by
    rw [← hW5]; exact set_same (set_other (set_other (set_other (set_other h.err _ (by omega)) _ (by omega)) _ (by omega)) _ (by omega)) _
  rw [hW5]
  refine leave12 w0.heap.size hT2 hT3 r5 e5 (other _ _ (by omega) (by omega) (by omega) h.dfr) hV ⟨abs, D, V, kept xs, 0, rfl, ?_, h.below.trans (b5.trans ⟨rfl, rfl, rfl, by simp, fun k hk => World.putObj_heap_other (by omega)⟩), hs⟩
  exact own_base (own_same hown (fun g o hg ho => (World.putObj_heap_other (by omega)).trans (other g o (by omega) (by omega) (by omega) ho))) (by omega)
/-- The end of Split: an error is told. -/
theorem SI.failed {w0 W : World} {s : ByteArray} {abs dir : Bool} {lp : Obj} {xs : List ByteArray} (h : SI w0 abs dir lp xs W) {T : Array Value} (hT2 : T[2]? = some (.pointer (some ⟨w0.heap.size, 0, none⟩))) (hT3 : T[3]? = some (.pointer (some ⟨w0.heap.size + 1, 0, none⟩)))
    (hs : splitS s.data.toList = (false, false, [], 1)) :
    bodyPostM Fence.wide 3 Tryz.prog Tryz.f54 (splitPost s w0) .ret { tmps := T, defers := [{ target := .collected (w0.heap.size + 5), args := #[] }] }
      ((((W.setCell ⟨w0.heap.size, 0, none⟩ (.bool false)).setCell ⟨w0.heap.size, 1, none⟩ (.slice none 0 0)).setCell ⟨w0.heap.size, 2, none⟩ (.bool false)).setCell ⟨w0.heap.size + 1, 0, none⟩ (.int .i64 1)) := by
  obtain ⟨W5, hW5⟩ : ∃ W5, ((((W.setCell ⟨w0.heap.size, 0, none⟩ (.bool false)).setCell ⟨w0.heap.size, 1, none⟩ (.slice none 0 0)).setCell ⟨w0.heap.size, 2, none⟩ (.bool false)).setCell ⟨w0.heap.size + 1, 0, none⟩ (.int .i64 1)) = W5 := ⟨_, rfl⟩
  have b5 : Below w0.heap.size W W5 := by rw [← hW5]; exact ((((Below.refl _ _).setCell (by simp) _).setCell (by simp) _).setCell (by simp) _).setCell (by simp) _
  have r5 : W5.heap[w0.heap.size]? = some (.cells #[.bool false, .slice none 0 0, .bool false] 72 (0, 0)) := by
    rw [← hW5]; exact set_other (set_same (set_same (set_same h.res _) _) _) _ (by omega)
  have e5 : W5.heap[w0.heap.size + 1]? = some (.cells #[.int .i64 1] 24 (0, 0)) := by
    rw [← hW5]; exact set_same (set_other (set_other (set_other h.err _ (by omega)) _ (by omega)) _ (by omega)) _
  have d5 : W5.heap[w0.heap.size + 5]? = some (.deferred (some [])) := by
    rw [← hW5]; exact set_other (set_other (set_other (set_other h.dfr _ (by omega)) _ (by omega)) _ (by omega)) _ (by omega)
  rw [hW5]
  exact leave12 w0.heap.size hT2 hT3 r5 e5 d5 ⟨none, 0, 0, rfl⟩ ⟨false, false, .slice none 0 0, [], 1, rfl, ⟨rfl, .inl ⟨rfl, rfl⟩⟩, h.below.trans (b5.trans ⟨rfl, rfl, rfl, by simp, fun k hk => World.putObj_heap_other (by omega)⟩), hs⟩

set_option maxRecDepth 100000 in
set_option maxHeartbeats 2000000 in
theorem split_main (s : ByteArray) (w : World) (h0 : ¬ s.data.toList = []) (hs : s.size ≤ 128) : Calls Tryz.prog 54 #[.string s] w (splitPost s w) := by
  refine (callsIn_wide (n := 3)).1 (callsIn_of_wp_marks Tryz.func54 rfl trivial ?_ rfl)
  simp only [Tryz.ntmps54, List.size_toArray, List.length_cons, List.length_nil, Nat.reduceAdd, Nat.reduceSub, Array.replicate_succ, Array.replicate_zero, List.push_toArray, List.append_toArray, List.nil_append, List.cons_append]
  have h1 : s.toList.isEmpty = false := by rw [toList_data]; cases hh : s.data.toList with | nil => exact absurd hh h0 | cons => rfl
  have hs1 : (s.size : Int) ≤ 128 := by omega
  have H0 := Lib.hid h0
  obtain ⟨i0, hi, hz0, hz1, hz2⟩ := info_parts info9
  clear h0
  gi_wp2_with fail
  refine ⟨trivial, ?_⟩
  refine (callsIn_wide.2 (Tryz.strings_HasPrefix _ _ _)).mono ?_
  rintro e w' ⟨rfl, rfl⟩
  gi_wp2_with fail
  refine ⟨trivial, ?_⟩
  refine (callsIn_wide.2 (Tryz.strings_HasSuffix _ _ _ (by omega))).mono ?_
  rintro e w' ⟨rfl, rfl⟩
  gi_wp2_with fail
  refine ⟨trivial, ?_⟩
  refine (callsIn_wide.2 (mk_names _ _)).mono ?_
  rintro e w' ⟨rfl, rfl⟩
  gi_wp2_with fail
  obtain ⟨W, hW⟩ : ∃ W, (((((w.alloc (.cells #[.bool false, .slice none 0 0, .bool false] 72)).alloc (.cells #[.int .i64 0] 24)).alloc (.cells #[.bool (Lib.hasPrefix s.data.toList [47]), .slice none 0 0, .bool (Lib.hasSuffix s.data.toList [47])] 72)).alloc (.cells #[.string ⟨#[]⟩] 9)).alloc (.cells #[.string s] 9)) = W := ⟨_, rfl⟩
  have hWs : W.heap.size = w.heap.size + 5 := by rw [← hW]; simp
  rw [hW]
  refine range_names W (.pointer (some ⟨w.heap.size + 4, 0, none⟩)) rfl (fun fn => ?_)
  rw [hWs]
  refine (iter_calls w s hs (Lib.hasPrefix s.data.toList [47]) (Lib.hasSuffix s.data.toList [47]) _ ?_ _ ?_ ?_ ?_).mono ?_
  rotate_left
  · rw [← hW]
    have h7 := push7 w.heap
    refine ⟨(((((((Below.refl _ _).alloc (Nat.le_refl _) _).alloc (by simp) _).alloc (by simp; omega) _).alloc (by simp; omega) _).alloc (by simp; omega) _).alloc (by simp; omega) _).alloc (by simp; omega) _, ?_, ?_, ⟨.slice none 0 0, ?_, ⟨rfl, .inl ⟨rfl, rfl⟩⟩⟩, ?_, ?_, ?_, by simp⟩
    · exact (h7 _ _ _ _ _ _ _).1
    · exact (h7 _ _ _ _ _ _ _).2.1
    · exact (h7 _ _ _ _ _ _ _).2.2.1
    · exact (h7 _ _ _ _ _ _ _).2.2.2.1
    · exact (h7 _ _ _ _ _ _ _).2.2.2.2.2.1
    · exact (h7 _ _ _ _ _ _ _).2.2.2.2.2.2
  · rw [← hW]
    exact (push7 w.heap _ _ _ _ _ _ _).2.2.2.2.1
  · intro pre x W2 hSI hsh hx hx1 hlen
    refine roundIn_of_wpIn trivial ?_
    dsimp only
    gi_wp2
    refine begin_round hSI rfl (fun W3 hS3 hb3 => ?_)
    obtain ⟨v, hpv, hown⟩ := hS3.p
    have r0 : W3.cell? ⟨w.heap.size, 0, none⟩ = some (.bool false) := heap_cell hS3.res 0
    have r1 : W3.cell? ⟨w.heap.size, 1, none⟩ = some (.slice none 0 0) := heap_cell hS3.res 1
    have r2 : W3.cell? ⟨w.heap.size, 2, none⟩ = some (.bool false) := heap_cell hS3.res 2
    have rf : ∀ i, W3.frozen? ⟨w.heap.size, i, none⟩ = false := heap_free hS3.res
    have e0 : W3.cell? ⟨w.heap.size + 1, 0, none⟩ = some (.int .i64 0) := heap_cell hS3.err 0
    have ef : W3.frozen? ⟨w.heap.size + 1, 0, none⟩ = false := heap_free hS3.err 0
    have p1 : W3.cell? ⟨w.heap.size + 1 + 1, 1, none⟩ = some v := heap_cell hpv 1
    have pf : W3.frozen? ⟨w.heap.size + 1 + 1, 1, none⟩ = false := heap_free hpv 1
    have l0 : W3.cell? ⟨w.heap.size + 1 + 1 + 1, 0, none⟩ = some (.string (lastOf pre)) := heap_cell hS3.last 0
    have lf : W3.frozen? ⟨w.heap.size + 1 + 1 + 1, 0, none⟩ = false := heap_free hS3.last 0
    have HS := Lib.hid hS3
    have HO := Lib.hid hown
    have HPV := Lib.hid hpv
    have HB3 := Lib.hid hb3
    have HX := Lib.hid hx
    have HSH := Lib.hid hsh
    clear hS3 hown hpv hb3 hx hSI hsh
    by_cases hl : 14 < x.size
    · have hl1 : (14 : Int) < x.size := by omega
      gi_wp2
      exact HS.out.stopped HX.out hl
    · have hl1 : ¬ (14 : Int) < x.size := by omega
      by_cases hd : x.data.toList = [46]
      · have hd1 : x.toList = [46] := by rw [toList_data]; exact hd
        have HD := Lib.hid hd
        clear hd
        gi_wp2
        exact (HS.out.lastSet (kept_no pre x HD.out)).goes rfl rfl (short_app HSH.out hl) ((Below.heap_setCell _ _ _ _ (by simp)).trans HB3.out)
      · have hd1 : (x.toList == [46]) = false := by rw [toList_data]; simpa using hd
        have HD := Lib.hid hd
        clear hd
        have hkl := kept_len pre
        have HO2 := Lib.hid (SI.own2 HO.out x)
        gi_wp2_with (gi_at_builtin; refine wpListIn_append_own _ rfl _ _ 56 rfl (w.heap.size + 7) 9 i0 (.string ByteArray.empty) 1 16 Tryz.underlying56 hi hz0 hz1 hz2 rfl (by decide) _ _ _ rfl (HO2.out.alloc _) ⟨W3.heap.size, 0, none⟩ 1 1 [.string x] rfl rfl (cell_one_set _ _ _ _) (by simp [Value.oneCell']) (by unfold maxLen; omega) (by omega) (by have := HS.out.size; simp; omega) ?_; intro v' w1 hown' hgrow _; obtain ⟨g', cap', rfl⟩ := ownsRow_succ hown'; have hq := p_kept HPV.out HS.out.size (own_ge HO.out) hgrow; have q1 := hq.1; have qf := hq.2; clear hq)
        obtain ⟨ha, hb⟩ := HS.out.appended (kept_yes pre x HD.out) HPV.out (own_ge HO.out) hgrow hown'
        exact ha.goes rfl rfl (short_app HSH.out hl) (hb.trans HB3.out)
  · rintro e W2 ⟨⟨v0, rfl⟩, (⟨xs, hxs, hSI, hsh⟩ | hstop)⟩
    · refine end_loop hSI rfl rfl (fun W4 hS4 => ?_)
      have HXS := Lib.hid hxs
      have HSH := Lib.hid hsh
      clear hxs hsh hSI W2 hW
      obtain ⟨v, hpv, hown⟩ := hS4.p
      obtain ⟨sa, sl, sc, rfl⟩ : ∃ a n c, v = .slice a n c := by
        obtain ⟨_, ⟨h2, _⟩ | ⟨g, cap, cur, h2, _⟩⟩ := hown
        · exact ⟨_, _, _, h2⟩
        · exact ⟨_, _, _, h2⟩
      have r0 : W4.cell? ⟨w.heap.size, 0, none⟩ = some (.bool false) := heap_cell hS4.res 0
      have r1 : W4.cell? ⟨w.heap.size, 1, none⟩ = some (.slice none 0 0) := heap_cell hS4.res 1
      have r2 : W4.cell? ⟨w.heap.size, 2, none⟩ = some (.bool false) := heap_cell hS4.res 2
      have rf : ∀ i, W4.frozen? ⟨w.heap.size, i, none⟩ = false := heap_free hS4.res
      have e0 : W4.cell? ⟨w.heap.size + 1, 0, none⟩ = some (.int .i64 0) := heap_cell hS4.err 0
      have ef : W4.frozen? ⟨w.heap.size + 1, 0, none⟩ = false := heap_free hS4.err 0
      have p0 : W4.cell? ⟨w.heap.size + 1 + 1, 0, none⟩ = some (.bool (Lib.hasPrefix s.data.toList [47])) := heap_cell hpv 0
      have p1 : W4.cell? ⟨w.heap.size + 1 + 1, 1, none⟩ = some (.slice sa sl sc) := heap_cell hpv 1
      have p2 : W4.cell? ⟨w.heap.size + 1 + 1, 2, none⟩ = some (.bool (Lib.hasSuffix s.data.toList [47])) := heap_cell hpv 2
      have pf : ∀ i, W4.frozen? ⟨w.heap.size + 1 + 1, i, none⟩ = false := heap_free hpv
      have l0 : W4.cell? ⟨w.heap.size + 1 + 1 + 1, 0, none⟩ = some (.string (lastOf xs)) := heap_cell hS4.last 0
      have HS := Lib.hid hS4
      have HO := Lib.hid hown
      have HPV := Lib.hid hpv
      clear hS4 hown hpv
      gi_wp2_with fail
      refine ⟨trivial, ?_⟩
      refine (callsIn_wide.2 (plain_any _ _ (by omega))).mono ?_
      rintro e w' ⟨rfl, rfl⟩
      by_cases hp : plainB s.data.toList = true
      · have HF := Lib.hid (split_ok H0.out hs HXS.out HSH.out hp)
        by_cases hd : Lib.hasSuffix s.data.toList [47] = true
        · have HF2 := Lib.hid (HF.out.trans (by rw [hd]; simp : _ = (Lib.hasPrefix s.data.toList [47], true, (kept xs).map (fun x : ByteArray => x.data.toList), (0 : Int))))
          gi_wp2
          exact HS.out.final ⟨_, _, _, rfl⟩ HO.out rfl rfl true HF2.out
        · replace hd : Lib.hasSuffix s.data.toList [47] = false := by simpa using hd
          by_cases hl1 : (lastOf xs).data.toList = [46]
          · have hm1 : (lastOf xs).toList = [46] := by rw [toList_data]; exact hl1
            have HF2 := Lib.hid (HF.out.trans (by rw [hd, hl1]; simp : _ = (Lib.hasPrefix s.data.toList [47], true, (kept xs).map (fun x : ByteArray => x.data.toList), (0 : Int))))
            clear hl1
            gi_wp2
            exact HS.out.final ⟨_, _, _, rfl⟩ HO.out rfl rfl true HF2.out
          · have hm1 : ((lastOf xs).toList == [46]) = false := by rw [toList_data]; simpa using hl1
            by_cases hl2 : (lastOf xs).data.toList = [46, 46]
            · have hm2 : (lastOf xs).toList = [46, 46] := by rw [toList_data]; exact hl2
              have HF2 := Lib.hid (HF.out.trans (by rw [hd, hl2]; simp : _ = (Lib.hasPrefix s.data.toList [47], true, (kept xs).map (fun x : ByteArray => x.data.toList), (0 : Int))))
              clear hl1 hl2
              gi_wp2
              exact HS.out.final ⟨_, _, _, rfl⟩ HO.out rfl rfl true HF2.out
            · have hm2 : ((lastOf xs).toList == [46, 46]) = false := by rw [toList_data]; simpa using hl2
              have HF2 := Lib.hid (HF.out.trans (by rw [hd]; simp [hl1, hl2] : _ = (Lib.hasPrefix s.data.toList [47], false, (kept xs).map (fun x : ByteArray => x.data.toList), (0 : Int))))
              clear hl1 hl2
              gi_wp2
              exact HS.out.final ⟨_, _, _, rfl⟩ HO.out rfl rfl false HF2.out
      · replace hp : plainB s.data.toList = false := by simpa using hp
        have HF := Lib.hid (split_bad H0.out hs HXS.out HSH.out hp)
        gi_wp2
        exact HS.out.failed rfl rfl HF.out
    · obtain ⟨q1, q2, q3, q4, q5, q6⟩ := hstop
      refine ⟨some .ret, _, run_endLoop q5 (by simp), ?_⟩
      have HF := Lib.hid (split_long H0.out (.inr q6))
      gi_wp2
      exact leave12 w.heap.size rfl rfl ((World.putObj_heap_other (by omega)).trans q2) ((World.putObj_heap_other (by omega)).trans q3) ((World.putObj_heap_other (by omega)).trans q4) ⟨none, 0, 0, rfl⟩ ⟨false, false, .slice none 0 0, [], 10, rfl, ⟨rfl, .inl ⟨rfl, rfl⟩⟩, below_put (below_put q1 (by omega)) (by omega), HF.out⟩
  · rfl
end Go.Proofs.YtmfbmjnoepcigaaGreatDoor.Pp
