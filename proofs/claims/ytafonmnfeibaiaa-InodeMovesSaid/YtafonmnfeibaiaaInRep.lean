/- What a tree of inodes is in memory: a ghost state, the predicate that ties it to the heap, and how each write turns both. No program in sight. -/
import Derived.WalkKit
import Derived.Below
import Derived.OwnWalk
import Derived.RangeFuncRecord
namespace Go.Proofs.Ytafonmnfeibaiaa
open Go.RowKit

/-- A node: its fields; 'mp' is the block of its names' map. -/
structure Nd where
  ino : Int
  kind : Int
  mode : Int
  owner : Int
  group : Int
  links : Int
  tty : Int
  holds : Int
  data : ByteArray
  mp : Option Nat
  names : List (ByteArray × Nat)
  parent : Nat

def Nd.cells (n : Nd) : Array Value :=
  #[.int .i64 n.ino, .int .i64 n.kind, .int .i64 n.mode, .int .i64 n.owner, .int .i64 n.group, .int .i64 n.links, .int .i64 0, .int .i64 n.tty, .int .i64 n.holds, .string n.data, .map n.mp, .int .i64 (n.parent : Int)]

def entVals (l : List (ByteArray × Nat)) : List (Value × Value) := l.map fun p => (.string p.1, .int .i64 (p.2 : Int))

/-- Some entries are l, in the order in which they came; no name stands twice. -/
structure MapOk (es : Array MapEntry) (clock : Nat) (l : List (ByteArray × Nat)) : Prop where
  vals : es.toList.map (fun e => (e.key, e.val)) = entVals l
  keys : (l.map (·.1)).Nodup
  born : ∀ e ∈ es.toList, e.born < clock
  apart : (es.toList.map (·.born)).Nodup
/-- Block m is a map whose entries are l. -/
def MapIs (w : World) (m : Nat) (l : List (ByteArray × Nat)) : Prop :=
  ∃ es clock, w.heap[m]? = some (.map es clock) ∧ MapOk es clock l

abbrev Tab := Nat → Option (Nat × Nd)
def ptrOf (x : Option (Nat × Nd)) : Value := .pointer (x.map fun p => ⟨p.1, 0, none⟩)
def tabArr (S : Tab) : Array Value := Array.ofFn (n := 201) fun i => ptrOf (S i.val)
def upd (S : Tab) (k : Nat) (x : Option (Nat × Nd)) : Tab := fun j => if j = k then x else S j

/-- The blocks of a tree. -/
def foot (S : Tab) (t b : Nat) : Prop := b = t ∨ ∃ k c n, S k = some (c, n) ∧ (b = c ∨ n.mp = some b)

structure Rep (w : World) (t : Nat) (S : Tab) : Prop where
  tree : w.heap[t]? = some (.cells (tabArr S) 71 (0, 0))
  node : ∀ k b n, S k = some (b, n) → w.heap[b]? = some (.cells n.cells 86 (0, 0))
  map : ∀ k b n m, S k = some (b, n) → n.mp = some m → MapIs w m n.names
  nomap : ∀ k b n, S k = some (b, n) → n.mp = none → n.names = []
  inj : ∀ j k b n n', S j = some (b, n) → S k = some (b, n') → j = k
  injm : ∀ j k b n b' n' m, S j = some (b, n) → S k = some (b', n') → n.mp = some m → n'.mp = some m → j = k
  rng : ∀ k x, S k = some x → 1 ≤ k ∧ k ≤ 200
  ino : ∀ k b n, S k = some (b, n) → n.ino = k
  dir : ∀ k b n, S k = some (b, n) → n.mp.isSome = decide (n.kind = 1)
  small : ∀ k b n, S k = some (b, n) → n.data.size ≤ 4096 ∧ n.names.length ≤ 40

theorem tabArr_get (S : Tab) (k : Nat) (h : k < 201) : (tabArr S)[k]? = some (ptrOf (S k)) := by
  simp [tabArr, h]
theorem tabArr_size (S : Tab) : (tabArr S).size = 201 := by simp [tabArr]
theorem upd_same (S : Tab) (k : Nat) (x) : upd S k x k = x := by simp [upd]
theorem upd_other (S : Tab) {k j : Nat} (x) (h : j ≠ k) : upd S k x j = S j := by simp [upd, h]
theorem tabArr_upd (S : Tab) (k : Nat) (x : Option (Nat × Nd)) : (tabArr S).setIfInBounds k (ptrOf x) = tabArr (upd S k x) := by
  apply Array.ext_getElem?
  intro i
  rw [Array.getElem?_setIfInBounds]
  by_cases hi : i < 201
  · rw [tabArr_get (upd S k x) i hi]
    by_cases e : k = i
    · subst e; rw [if_pos rfl, if_pos (by rw [tabArr_size]; exact hi), upd_same]
    · rw [if_neg e, tabArr_get S i hi, upd_other S x (Ne.symm e)]
  · have h1 : (tabArr S)[i]? = none := by simp [tabArr, hi]
    have h2 : (tabArr (upd S k x))[i]? = none := by simp [tabArr, hi]
    rw [h1, h2]
    by_cases e : k = i
    · subst e; rw [if_pos rfl, if_neg (by rw [tabArr_size]; omega)]
    · rw [if_neg e]

variable {w w' : World} {t k b : Nat} {S : Tab} {n : Nd}

theorem upd_self (S : Tab) (k : Nat) {x} (h : S k = x) : upd S k x = S := by
  funext j; by_cases e : j = k
  · subst e; simp [upd, h]
  · simp [upd, e]

theorem tabArr_ptr (S : Tab) (k b : Nat) (n n' : Nd) (h : S k = some (b, n)) : tabArr (upd S k (some (b, n'))) = tabArr S := by
  have h1 := tabArr_upd S k (some (b, n'))
  have h2 := tabArr_upd S k (some (b, n))
  rw [upd_self S k h] at h2
  have h3 : ptrOf (some (b, n')) = ptrOf (some (b, n)) := rfl
  rw [← h1, h3, h2]

theorem Rep.no0 (h : Rep w t S) : S 0 = none := by
  cases hx : S 0 with
  | none => rfl
  | some x => have := h.rng 0 x hx; omega
theorem Rep.no_hi (h : Rep w t S) (k : Nat) (hk : 200 < k) : S k = none := by
  cases hx : S k with
  | none => rfl
  | some x => have := h.rng k x hx; omega

theorem cell_of {w : World} {b : Nat} {C : Array Value} {T : TypeId} {f : Nat × Nat} (h : w.heap[b]? = some (.cells C T f)) (i : Nat) : w.cell? ⟨b, i, none⟩ = C[i]? := by
  simp [World.cell?, h]
theorem frozen_of {w : World} {b : Nat} {C : Array Value} {T : TypeId} (h : w.heap[b]? = some (.cells C T (0, 0))) (i : Nat) : w.frozen? ⟨b, i, none⟩ = false := by
  simp [World.frozen?, h]
theorem lt_of_heap {w : World} {b : Nat} {o : Obj} (h : w.heap[b]? = some o) : b < w.heap.size := by
  obtain ⟨h1, _⟩ := Array.getElem?_eq_some_iff.1 h; exact h1
theorem Rep.cellT (h : Rep w t S) (k : Nat) (hk : k < 201) : w.cell? ⟨t, k, none⟩ = some (ptrOf (S k)) := by
  rw [cell_of h.tree, tabArr_get S k hk]
theorem Rep.frozenT (h : Rep w t S) (k : Nat) : w.frozen? ⟨t, k, none⟩ = false := frozen_of h.tree k
theorem Rep.cellN (h : Rep w t S) (hk : S k = some (b, n)) (i : Nat) : w.cell? ⟨b, i, none⟩ = n.cells[i]? := cell_of (h.node k b n hk) i
theorem Rep.frozenN (h : Rep w t S) (hk : S k = some (b, n)) (i : Nat) : w.frozen? ⟨b, i, none⟩ = false := frozen_of (h.node k b n hk) i
theorem Rep.ltT (h : Rep w t S) : t < w.heap.size := lt_of_heap h.tree
theorem Rep.ltN (h : Rep w t S) (hk : S k = some (b, n)) : b < w.heap.size := lt_of_heap (h.node k b n hk)
theorem MapIs.lt {m : Nat} {l} (h : MapIs w m l) : m < w.heap.size := by obtain ⟨es, c, h1, _⟩ := h; exact lt_of_heap h1
theorem Rep.neT (h : Rep w t S) (hk : S k = some (b, n)) : b ≠ t := by
  intro e; subst e
  have h1 := h.tree; rw [h.node k b n hk] at h1; simp at h1
theorem MapIs.ne_cells {m : Nat} {l} (h : MapIs w m l) {b : Nat} {C T f} (hb : w.heap[b]? = some (.cells C T f)) : m ≠ b := by
  intro e; subst e; obtain ⟨es, c, h1, _⟩ := h; rw [hb] at h1; simp at h1
theorem Rep.foot_lt (h : Rep w t S) {b : Nat} (hb : foot S t b) : b < w.heap.size := by
  rcases hb with rfl | ⟨k, c, n, hk, rfl | hm⟩
  · exact h.ltT
  · exact h.ltN hk
  · exact (h.map k c n b hk hm).lt

/-- What lies as it lay stays a tree. -/
theorem Rep.same (h : Rep w t S) (hs : ∀ b, foot S t b → w'.heap[b]? = w.heap[b]?) : Rep w' t S where
  tree := by rw [hs t (.inl rfl)]; exact h.tree
  node := fun k b n hk => by rw [hs b (.inr ⟨k, b, n, hk, .inl rfl⟩)]; exact h.node k b n hk
  map := fun k b n m hk hm => by
    obtain ⟨es, c, h1, h2⟩ := h.map k b n m hk hm
    exact ⟨es, c, by rw [hs m (.inr ⟨k, b, n, hk, .inr hm⟩)]; exact h1, h2⟩
  nomap := h.nomap
  inj := h.inj
  injm := h.injm
  rng := h.rng
  ino := h.ino
  dir := h.dir
  small := h.small

theorem setCell_alloc (w : World) (o : Obj) (b i : Nat) (v : Value) (hb : b < w.heap.size) : (w.setCell ⟨b, i, none⟩ v).alloc o = (w.alloc o).setCell ⟨b, i, none⟩ v :=
  (World.setCell_alloc_past o b i v hb).symm
theorem alloc_heap (w : World) (o : Obj) : (w.alloc o).heap[w.heap.size]? = some o := by show (w.heap.push o)[w.heap.size]? = _; simp
theorem alloc_heap_old (w : World) (o : Obj) {b : Nat} (h : b < w.heap.size) : (w.alloc o).heap[b]? = w.heap[b]? := Below.heap_alloc _ _ _ h
theorem alloc_size (w : World) (o : Obj) : (w.alloc o).heap.size = w.heap.size + 1 := by show (w.heap.push o).size = _; simp

/-! ### How a call moves a tree -/

/-- All that was there and is not the tree's lies as it lay. -/
structure Mv (w : World) (t : Nat) (S : Tab) (w' : World) (S' : Tab) : Prop where
  rep : Rep w' t S'
  os : w'.os = w.os
  tape : w'.tape = w.tape
  output : w'.output = w.output
  size : w.heap.size ≤ w'.heap.size
  block : ∀ b, b < w.heap.size → ¬ foot S t b → w'.heap[b]? = w.heap[b]?
  grow : ∀ b, foot S' t b → foot S t b ∨ w.heap.size ≤ b

theorem Mv.refl (h : Rep w t S) : Mv w t S w S := ⟨h, rfl, rfl, rfl, Nat.le_refl _, fun _ _ _ => rfl, fun _ h => .inl h⟩
theorem Mv.trans {w1 w2 : World} {S1 S2 : Tab} (h : Mv w t S w1 S1) (g : Mv w1 t S1 w2 S2) : Mv w t S w2 S2 :=
  ⟨g.rep, g.os.trans h.os, g.tape.trans h.tape, g.output.trans h.output, Nat.le_trans h.size g.size,
    fun b hb hf => (g.block b (Nat.lt_of_lt_of_le hb h.size) (fun h2 => (h.grow b h2).elim hf (fun h3 => by omega))).trans (h.block b hb hf),
    fun b hb => (g.grow b hb).elim (h.grow b) (fun h2 => .inr (by have := h.size; omega))⟩
/-- Steps that leave all that was there alone. -/
theorem Mv.below {w1 w2 : World} {S1 : Tab} (h : Mv w t S w1 S1) (g : Below w1.heap.size w1 w2) : Mv w t S w2 S1 :=
  h.trans ⟨h.rep.same (fun b hb => g.block b (h.rep.foot_lt hb)), g.os, g.tape, g.output, g.size, fun b hb _ => g.block b hb, fun _ h => .inl h⟩
theorem Mv.alloc {w1 : World} {S1 : Tab} (h : Mv w t S w1 S1) (o : Obj) : Mv w t S (w1.alloc o) S1 := h.below ((Below.refl _ _).alloc (Nat.le_refl _) o)
theorem Mv.drew {w1 : World} {S1 : Tab} (h : Mv w t S w1 S1) : Mv w t S w1.drew S1 := h.below (Below.refl _ _).drew
/-- A store into a block that came behind the beginning, and is not the tree's. -/
theorem Mv.setNew {w1 : World} {S1 : Tab} (h : Mv w t S w1 S1) (a : Addr) (v : Value) (hb : w.heap.size ≤ a.block) (hf : ¬ foot S1 t a.block) : Mv w t S (w1.setCell a v) S1 :=
  ⟨h.rep.same (fun b hb' => Below.heap_setCell _ _ _ _ (fun e => hf (e ▸ hb'))), h.os, h.tape, h.output, by simpa [World.setCell] using h.size,
    fun b hb' hf' => (Below.heap_setCell _ _ _ _ (by omega)).trans (h.block b hb' hf'), h.grow⟩

/-- A block that came behind the beginning, and is not the tree's, is another one; the tape may have been asked. -/
theorem Mv.other {w1 w2 : World} {S1 : Tab} (h : Mv w t S w1 S1) (r : Nat) (hr : w.heap.size ≤ r) (hf : ¬ foot S1 t r) (ho : w2.os = w1.os) (ht : w2.tape = w1.tape) (hp : w2.output = w1.output) (hz : w2.heap.size = w1.heap.size) (hb : ∀ b, b ≠ r → w2.heap[b]? = w1.heap[b]?) : Mv w t S w2 S1 :=
  ⟨h.rep.same (fun b hb' => hb b (fun e => hf (e ▸ hb'))), ho.trans h.os, ht.trans h.tape, hp.trans h.output, by rw [hz]; exact h.size,
    fun b hb' hf' => (hb b (by omega)).trans (h.block b hb' hf'), h.grow⟩

theorem heap_setCell_same {w : World} {b i : Nat} {C T f} (h : w.heap[b]? = some (.cells C T f)) (v : Value) : (w.setCell ⟨b, i, none⟩ v).heap[b]? = some (.cells (C.setIfInBounds i v) T f) := by
  simp [World.setCell, Array.getElem?_modify, h]
theorem MapIs.setCell {m : Nat} {l} (h : MapIs w m l) {b i : Nat} {C T f} (hb : w.heap[b]? = some (.cells C T f)) (v : Value) : MapIs (w.setCell ⟨b, i, none⟩ v) m l := by
  have hne := h.ne_cells hb
  obtain ⟨es, c, h1, h2⟩ := h
  exact ⟨es, c, by rw [Below.heap_setCell _ _ _ _ hne]; exact h1, h2⟩

theorem foot_upd {S : Tab} {t k b : Nat} {n n' : Nd} (hk : S k = some (b, n)) (hmp : n'.mp = n.mp) (c : Nat) : foot (upd S k (some (b, n'))) t c ↔ foot S t c := by
  unfold foot
  constructor
  · rintro (h | ⟨j, d, m, hj, h⟩)
    · exact .inl h
    · by_cases e : j = k
      · subst e; rw [upd_same] at hj; obtain ⟨e1, e2⟩ := Prod.mk.inj (Option.some.inj hj)
        exact .inr ⟨j, b, n, hk, by rw [e1, ← hmp, e2]; exact h⟩
      · rw [upd_other _ _ e] at hj; exact .inr ⟨j, d, m, hj, h⟩
  · rintro (h | ⟨j, d, m, hj, h⟩)
    · exact .inl h
    · by_cases e : j = k
      · subst e; rw [hk] at hj; obtain ⟨e1, e2⟩ := Prod.mk.inj (Option.some.inj hj)
        exact .inr ⟨j, b, n', upd_same .., by rw [e1, hmp, e2]; exact h⟩
      · exact .inr ⟨j, d, m, by rw [upd_other _ _ e]; exact hj, h⟩

/-- A field of a node is written. -/
theorem Mv.setNode {w1 : World} {S1 : Tab} (h : Mv w t S w1 S1) (hk : S1 k = some (b, n)) (i : Nat) (v : Value) (n' : Nd) (hc : n'.cells = n.cells.setIfInBounds i v) (hmp : n'.mp = n.mp)
    (hnm : n'.names = n.names) (hi : n'.ino = n.ino) (hkd : n'.kind = n.kind) (hsm : n'.data.size ≤ 4096) : Mv w t S (w1.setCell ⟨b, i, none⟩ v) (upd S1 k (some (b, n'))) := by
  have hR := h.rep
  have hb := hR.node k b n hk
  refine h.trans ⟨⟨?_, ?_, ?_, ?_, ?_, ?_, ?_, ?_, ?_, ?_⟩, rfl, rfl, rfl, by simp [World.setCell], fun c _ hf => Below.heap_setCell _ _ _ _ (fun e => hf (.inr ⟨k, b, n, hk, .inl e⟩)), fun c hc => .inl ((foot_upd hk hmp c).1 hc)⟩
  · rw [Below.heap_setCell _ _ _ _ (hR.neT hk).symm, hR.tree, tabArr_ptr S1 k b n n' hk]
  · intro j c m hj
    by_cases e : j = k
    · subst e; rw [upd_same] at hj; obtain ⟨e1, e2⟩ := Prod.mk.inj (Option.some.inj hj)
      rw [← e1, ← e2, heap_setCell_same hb, hc]
    · rw [upd_other _ _ e] at hj
      have : c ≠ b := fun e2 => e (hR.inj j k b m n (e2 ▸ hj) hk)
      rw [Below.heap_setCell _ _ _ _ this]; exact hR.node j c m hj
  · intro j c m q hj hq
    by_cases e : j = k
    · subst e; rw [upd_same] at hj; obtain ⟨e1, e2⟩ := Prod.mk.inj (Option.some.inj hj)
      rw [← e2] at hq ⊢
      rw [hnm]; exact (hR.map j b n q hk (hmp ▸ hq)).setCell hb v
    · rw [upd_other _ _ e] at hj; exact (hR.map j c m q hj hq).setCell hb v
  · intro j c m hj hq
    by_cases e : j = k
    · subst e; rw [upd_same] at hj; obtain ⟨e1, e2⟩ := Prod.mk.inj (Option.some.inj hj)
      rw [← e2] at hq ⊢
      rw [hnm]; exact hR.nomap j b n hk (hmp ▸ hq)
    · rw [upd_other _ _ e] at hj; exact hR.nomap j c m hj hq
  · intro i j c m m' hi' hj
    have key : ∀ x c m, upd S1 k (some (b, n')) x = some (c, m) → ∃ m0, S1 x = some (c, m0) := by
      intro x c m hx; by_cases e : x = k
      · subst e; rw [upd_same] at hx; obtain ⟨e1, e2⟩ := Prod.mk.inj (Option.some.inj hx); exact ⟨n, e1 ▸ hk⟩
      · rw [upd_other _ _ e] at hx; exact ⟨m, hx⟩
    obtain ⟨p, hp⟩ := key _ _ _ hi'; obtain ⟨q, hq⟩ := key _ _ _ hj
    exact hR.inj _ _ _ _ _ hp hq
  · intro i j c m c' m' q hi' hj h1 h2
    have key : ∀ x c m, upd S1 k (some (b, n')) x = some (c, m) → ∃ m0, S1 x = some (c, m0) ∧ m0.mp = m.mp := by
      intro x c m hx; by_cases e : x = k
      · subst e; rw [upd_same] at hx; obtain ⟨e1, e2⟩ := Prod.mk.inj (Option.some.inj hx); exact ⟨n, e1 ▸ hk, e2 ▸ hmp.symm⟩
      · rw [upd_other _ _ e] at hx; exact ⟨m, hx, rfl⟩
    obtain ⟨p, hp, hp'⟩ := key _ _ _ hi'; obtain ⟨r, hr, hr'⟩ := key _ _ _ hj
    exact hR.injm _ _ _ _ _ _ q hp hr (hp'.trans h1) (hr'.trans h2)
  · intro j x hj
    by_cases e : j = k
    · subst e; exact hR.rng j _ hk
    · rw [upd_other _ _ e] at hj; exact hR.rng j x hj
  · intro j c m hj
    by_cases e : j = k
    · subst e; rw [upd_same] at hj; obtain ⟨e1, e2⟩ := Prod.mk.inj (Option.some.inj hj); rw [← e2, hi]; exact hR.ino j _ _ hk
    · rw [upd_other _ _ e] at hj; exact hR.ino j c m hj
  · intro j c m hj
    by_cases e : j = k
    · subst e; rw [upd_same] at hj; obtain ⟨e1, e2⟩ := Prod.mk.inj (Option.some.inj hj); rw [← e2, hmp, hkd]; exact hR.dir j _ _ hk
    · rw [upd_other _ _ e] at hj; exact hR.dir j c m hj
  · intro j c m hj
    by_cases e : j = k
    · subst e; rw [upd_same] at hj; obtain ⟨e1, e2⟩ := Prod.mk.inj (Option.some.inj hj); rw [← e2, hnm]; exact ⟨hsm, (hR.small j _ _ hk).2⟩
    · rw [upd_other _ _ e] at hj; exact hR.small j c m hj

/-- An inode goes. -/
theorem Mv.setNone {w1 : World} {S1 : Tab} (h : Mv w t S w1 S1) (k : Nat) : Mv w t S (w1.setCell ⟨t, k, none⟩ (.pointer none)) (upd S1 k none) := by
  have hR := h.rep
  have key : ∀ x y, upd S1 k none x = some y → S1 x = some y := by
    intro x y hx; by_cases e : x = k
    · subst e; rw [upd_same] at hx; cases hx
    · rw [upd_other _ _ e] at hx; exact hx
  refine h.trans ⟨⟨?_, ?_, ?_, fun j c m hj => hR.nomap j c m (key _ _ hj), fun i j c m m' hi hj => hR.inj i j c m m' (key _ _ hi) (key _ _ hj), fun i j c m c' m' q hi hj => hR.injm i j c m c' m' q (key _ _ hi) (key _ _ hj),
    fun j x hj => hR.rng j x (key _ _ hj), fun j c m hj => hR.ino j c m (key _ _ hj), fun j c m hj => hR.dir j c m (key _ _ hj), fun j c m hj => hR.small j c m (key _ _ hj)⟩, rfl, rfl, rfl, by simp [World.setCell], fun c _ hf => Below.heap_setCell _ _ _ _ (fun e => hf (.inl e)), fun c hc => .inl ?_⟩
  · rw [heap_setCell_same hR.tree]
    have := tabArr_upd S1 k none
    simp only [ptrOf, Option.map_none] at this
    rw [this]
  · intro j c m hj
    rw [Below.heap_setCell _ _ _ _ (hR.neT (key _ _ hj))]; exact hR.node j c m (key _ _ hj)
  · intro j c m q hj hq
    exact (hR.map j c m q (key _ _ hj) hq).setCell hR.tree _
  · rcases hc with e | ⟨j, d, m, hj, h'⟩
    · exact .inl e
    · exact .inr ⟨j, d, m, key _ _ hj, h'⟩

/-- An inode comes: its block, and its names', lie there already and are nobody's. -/
theorem Mv.setSome {w1 : World} {S1 : Tab} (h : Mv w t S w1 S1) (k : Nat) (hk1 : 1 ≤ k) (hk2 : k ≤ 200) (hk : S1 k = none) (b : Nat) (n : Nd) (hn : w1.heap[b]? = some (.cells n.cells 86 (0, 0)))
    (hm : ∀ m, n.mp = some m → MapIs w1 m n.names ∧ ¬ foot S1 t m ∧ w.heap.size ≤ m) (hm0 : n.mp = none → n.names = []) (hb : ¬ foot S1 t b) (hi : n.ino = k) (hdir : n.mp.isSome = decide (n.kind = 1)) (hsm : n.data.size ≤ 4096 ∧ n.names.length ≤ 40) (hnew : w.heap.size ≤ b) :
    Mv w t S (w1.setCell ⟨t, k, none⟩ (.pointer (some ⟨b, 0, none⟩))) (upd S1 k (some (b, n))) := by
  have hR := h.rep
  have hbt : b ≠ t := fun e => hb (.inl e)
  have key : ∀ x c m, upd S1 k (some (b, n)) x = some (c, m) → (x = k ∧ c = b ∧ m = n) ∨ (x ≠ k ∧ S1 x = some (c, m)) := by
    intro x c m hx; by_cases e : x = k
    · subst e; rw [upd_same] at hx; obtain ⟨e1, e2⟩ := Prod.mk.inj (Option.some.inj hx); exact .inl ⟨rfl, e1.symm, e2.symm⟩
    · rw [upd_other _ _ e] at hx; exact .inr ⟨e, hx⟩
  refine ⟨⟨?_, ?_, ?_, ?_, ?_, ?_, ?_, ?_, ?_, ?_⟩, h.os, h.tape, h.output, by simpa [World.setCell] using h.size, ?_, ?_⟩
  · rw [heap_setCell_same hR.tree]
    have := tabArr_upd S1 k (some (b, n))
    simp only [ptrOf, Option.map_some] at this
    rw [this]
  · intro j c m hj
    rcases key _ _ _ hj with ⟨e0, e1, e2⟩ | ⟨_, hj⟩
    · rw [e1, e2, Below.heap_setCell _ _ _ _ hbt]; exact hn
    · rw [Below.heap_setCell _ _ _ _ (hR.neT hj)]; exact hR.node j c m hj
  · intro j c m q hj hq
    rcases key _ _ _ hj with ⟨e0, e1, e2⟩ | ⟨_, hj⟩
    · rw [e2] at hq ⊢; exact (hm q hq).1.setCell hR.tree _
    · exact (hR.map j c m q hj hq).setCell hR.tree _
  · intro j c m hj hq
    rcases key _ _ _ hj with ⟨e0, e1, e2⟩ | ⟨_, hj⟩
    · rw [e2] at hq ⊢; exact hm0 hq
    · exact hR.nomap j c m hj hq
  · intro i j c m m' hi' hj
    rcases key _ _ _ hi' with ⟨e0, e1, e2⟩ | ⟨e1, hi'⟩ <;> rcases key _ _ _ hj with ⟨g0, g1, g2⟩ | ⟨g1, hj⟩
    · rw [e0, g0]
    · exact absurd (.inr ⟨j, c, m', hj, .inl e1.symm⟩) hb
    · exact absurd (.inr ⟨i, c, m, hi', .inl g1.symm⟩) hb
    · exact hR.inj i j c m m' hi' hj
  · intro i j c m c' m' q hi' hj h1 h2
    rcases key _ _ _ hi' with ⟨e0, e1, e2⟩ | ⟨e1, hi'⟩ <;> rcases key _ _ _ hj with ⟨g0, g1, g2⟩ | ⟨g1, hj⟩
    · rw [e0, g0]
    · exact absurd (.inr ⟨j, c', m', hj, .inr h2⟩) (hm q (e2 ▸ h1)).2.1
    · exact absurd (.inr ⟨i, c, m, hi', .inr h1⟩) (hm q (g2 ▸ h2)).2.1
    · exact hR.injm i j c m c' m' q hi' hj h1 h2
  · rintro j ⟨c, m⟩ hj
    rcases key _ _ _ hj with ⟨e0, e1, e2⟩ | ⟨_, hj⟩
    · rw [e0]; exact ⟨hk1, hk2⟩
    · exact hR.rng j _ hj
  · intro j c m hj
    rcases key _ _ _ hj with ⟨e0, e1, e2⟩ | ⟨_, hj⟩
    · rw [e2, hi, e0]
    · exact hR.ino j c m hj
  · intro j c m hj
    rcases key _ _ _ hj with ⟨e0, e1, e2⟩ | ⟨_, hj⟩
    · rw [e2]; exact hdir
    · exact hR.dir j c m hj
  · intro j c m hj
    rcases key _ _ _ hj with ⟨e0, e1, e2⟩ | ⟨_, hj⟩
    · rw [e2]; exact hsm
    · exact hR.small j c m hj
  · intro c hc hf
    rw [Below.heap_setCell]
    · exact h.block c hc hf
    · intro e
      rcases h.grow t (.inl rfl) with g | g
      · exact hf (by rw [e]; exact g)
      · simp only at e; omega
  · intro c hc
    rcases hc with e | ⟨j, d, m, hj, h'⟩
    · exact h.grow c (.inl e)
    · rcases key _ _ _ hj with ⟨e0, e1, e2⟩ | ⟨_, hj⟩
      · rcases h' with h' | h'
        · exact .inr (by rw [h', e1]; exact hnew)
        · exact .inr (hm c (e2 ▸ h')).2.2
      · exact h.grow c (.inr ⟨j, d, m, hj, h'⟩)

/-- A directory's names are written. -/
theorem Mv.setMap {w1 : World} {S1 : Tab} (h : Mv w t S w1 S1) (hk : S1 k = some (b, n)) {m : Nat} (hmp : n.mp = some m) (es : Array MapEntry) (clock : Nat) (l : List (ByteArray × Nat))
    (hes : MapOk es clock l) (hl : l.length ≤ 40) : Mv w t S (w1.putObj m (.map es clock)) (upd S1 k (some (b, { n with names := l }))) := by
  have hR := h.rep
  have hb := hR.node k b n hk
  have hmi := hR.map k b n m hk hmp
  have hother : ∀ c, c ≠ m → (w1.putObj m (.map es clock)).heap[c]? = w1.heap[c]? := fun c hc => World.putObj_heap_other hc
  have hsame : (w1.putObj m (.map es clock)).heap[m]? = some (.map es clock) := World.putObj_heap_same hmi.lt
  have key : ∀ x c y, upd S1 k (some (b, { n with names := l })) x = some (c, y) → (x = k ∧ c = b ∧ y = { n with names := l }) ∨ (x ≠ k ∧ S1 x = some (c, y)) := by
    intro x c y hx; by_cases e : x = k
    · subst e; rw [upd_same] at hx; obtain ⟨e1, e2⟩ := Prod.mk.inj (Option.some.inj hx); exact .inl ⟨rfl, e1.symm, e2.symm⟩
    · rw [upd_other _ _ e] at hx; exact .inr ⟨e, hx⟩
  have key2 : ∀ x c y, upd S1 k (some (b, { n with names := l })) x = some (c, y) → ∃ y0, S1 x = some (c, y0) ∧ y0.mp = y.mp ∧ y0.ino = y.ino ∧ y0.cells = y.cells ∧ y0.kind = y.kind := by
    intro x c y hx
    rcases key x c y hx with ⟨e0, e1, e2⟩ | ⟨_, h'⟩
    · rw [e0, e1, e2]; exact ⟨n, hk, rfl, rfl, rfl, rfl⟩
    · exact ⟨y, h', rfl, rfl, rfl, rfl⟩
  refine h.trans ⟨⟨?_, ?_, ?_, ?_, ?_, ?_, ?_, ?_, ?_, ?_⟩, rfl, rfl, rfl, by simp [World.putObj], fun c _ hf => hother c (fun e => hf (.inr ⟨k, b, n, hk, .inr (e ▸ hmp)⟩)), fun c hc => .inl ((foot_upd (n' := { n with names := l }) hk rfl c).1 hc)⟩
  · rw [hother t (hmi.ne_cells hR.tree).symm, hR.tree, tabArr_ptr S1 k b n _ hk]
  · intro j c y hj
    obtain ⟨y0, h1, _, _, h2, _⟩ := key2 _ _ _ hj
    have h3 := hR.node j c y0 h1
    rw [hother c (hmi.ne_cells h3).symm, ← h2]; exact h3
  · intro j c y q hj hq
    rcases key _ _ _ hj with ⟨e0, e1, e2⟩ | ⟨e, h'⟩
    · rw [e2] at hq ⊢
      have e3 : q = m := by simpa [hmp] using hq.symm
      rw [e3]
      exact ⟨es, clock, hsame, hes⟩
    · have hne : q ≠ m := fun e2 => e (hR.injm j k c y b n m h' hk (e2 ▸ hq) hmp)
      obtain ⟨es', c', h1, h2⟩ := hR.map j c y q h' hq
      exact ⟨es', c', by rw [hother q hne]; exact h1, h2⟩
  · intro j c y hj hq
    rcases key _ _ _ hj with ⟨e0, e1, e2⟩ | ⟨e, h'⟩
    · rw [e2] at hq; simp [hmp] at hq
    · exact hR.nomap j c y h' hq
  · intro i j c m m' hi' hj
    obtain ⟨p, hp, _⟩ := key2 _ _ _ hi'; obtain ⟨q, hq, _⟩ := key2 _ _ _ hj
    exact hR.inj _ _ _ _ _ hp hq
  · intro i j c m c' m' q hi' hj h1 h2
    obtain ⟨p, hp, hp', _⟩ := key2 _ _ _ hi'; obtain ⟨r, hr, hr', _⟩ := key2 _ _ _ hj
    exact hR.injm _ _ _ _ _ _ q hp hr (hp'.trans h1) (hr'.trans h2)
  · intro j x hj
    obtain ⟨c, y⟩ := x
    obtain ⟨y0, h1, _⟩ := key2 _ _ _ hj
    exact hR.rng j _ h1
  · intro j c y hj
    obtain ⟨y0, h1, _, h2, _⟩ := key2 _ _ _ hj
    rw [← h2]; exact hR.ino j c y0 h1
  · intro j c y hj
    obtain ⟨y0, h1, h2, _, _, h3⟩ := key2 _ _ _ hj
    rw [← h2, ← h3]; exact hR.dir j c y0 h1
  · intro j c y hj
    rcases key _ _ _ hj with ⟨e0, e1, e2⟩ | ⟨e, h'⟩
    · rw [e2]; exact ⟨(hR.small _ _ _ hk).1, hl⟩
    · exact hR.small j c y h'

/-! ### A tree of the call's own -/
/-- Below block B all is as it was in w0; the tree is the call's own. -/
structure Own (B : Nat) (w0 w : World) (t : Nat) (S : Tab) : Prop where
  rep : Rep w t S
  below : Below B w0 w
  le : B ≤ w.heap.size
  own : ∀ b, foot S t b → B ≤ b
theorem Own.mv {B : Nat} {w0 : World} {S' : Tab} (h : Own B w0 w t S) (g : Mv w t S w' S') : Own B w0 w' t S' :=
  ⟨g.rep, h.below.trans ⟨g.os, g.tape, g.output, g.size, fun b hb => g.block b (Nat.lt_of_lt_of_le hb h.le) (fun hf => absurd (h.own b hf) (by omega))⟩, Nat.le_trans h.le g.size,
    fun b hb => (g.grow b hb).elim (h.own b) (Nat.le_trans h.le)⟩
end Go.Proofs.Ytafonmnfeibaiaa
