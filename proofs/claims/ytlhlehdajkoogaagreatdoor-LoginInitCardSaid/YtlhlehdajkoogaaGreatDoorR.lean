/- LoginInit: what its loop keeps. -/
import Derived.Test.YtlhlehdajkoogaaGreatDoorQ
import Derived.Laws.Bits128
import Derived.Maps.AppendAt
namespace Go.Proofs.YtlhlehdajkoogaaGreatDoor
open Go.RowKit

theorem i64_and7 (n : Int) : bits .and .i64 n 7 = n % 8 := by
  have h7 : (BitVec.ofInt 64 7).toNat = 2 ^ 3 - 1 := by decide
  have key : (BitVec.ofInt 64 n &&& BitVec.ofInt 64 7).toNat = (n % ((2 ^ 64 : Nat) : Int)).toNat % 2 ^ 3 := by
    rw [BitVec.toNat_and, BitVec.toNat_ofInt, h7, Nat.and_two_pow_sub_one_eq_mod]
  show IntKind.i64.wrap ((BitVec.ofInt 64 n &&& BitVec.ofInt 64 7).toNat : Nat) = n % 8
  rw [key, IntKind.wrap_i64]
  omega
theorem conv_one (W : World) (c : UInt8) : (convert 59 9 (.slice (some ⟨W.heap.size, 0, none⟩) 1 1)).run Tryz.prog (W.alloc (Obj.cells #[.int .u8 (c.toNat : Int)] 5)) = .ok (.string ⟨#[c]⟩) (W.alloc (Obj.cells #[.int .u8 (c.toNat : Int)] 5)) :=
  run_convert_bytes_back (P := Tryz.prog) (W.alloc (Obj.cells #[.int .u8 (c.toNat : Int)] 5)) 59 9 5 ⟨W.heap.size, 0, none⟩ 1 [c] Tryz.underlying59 Tryz.underlying5 Tryz.underlying9 (fun j hj => by
    obtain rfl : j = 0 := by simp at hj; exact hj
    exact cell_one_new W (.int .u8 (c.toNat : Int)) 5 0 _ rfl)
theorem stored_ans {w : World} {C : Array Value} (h : C.size = 19) : ∃ W, World.setCells (w.alloc (.cells #[.int .i64 0, .int .i64 0, .int .i64 0, .string ⟨#[]⟩, .slice none 0 0, .int .i64 0, .int .i64 0, .int .i64 0, .int .i64 0, .int .i64 0, .int .i64 0, .int .i64 0, .int .i64 0, .int .i64 0, .int .i64 0, .int .i64 0, .int .i64 0, .int .i64 0, .int .i64 0] 35)) w.heap.size 0 C.toList = W ∧ W.heap[w.heap.size]? = some (.cells C 35 (0, 0)) ∧ Below w.heap.size w W ∧ W.heap.size = w.heap.size + 1 ∧ (w.alloc (.cells #[.int .i64 0, .int .i64 0, .int .i64 0, .string ⟨#[]⟩, .slice none 0 0, .int .i64 0, .int .i64 0, .int .i64 0, .int .i64 0, .int .i64 0, .int .i64 0, .int .i64 0, .int .i64 0, .int .i64 0, .int .i64 0, .int .i64 0, .int .i64 0, .int .i64 0, .int .i64 0] 35)).there w.heap.size 0 C.size := by
  have hA := alloc_heap w (.cells ({} : An).cells 35)
  have hwr := heap_setCells C.toList 0 _ _ hA
  rw [putA_whole (show C.size = ({} : An).cells.size from h)] at hwr
  have hb := belowA (Below.refl w.heap.size w) (.cells ({} : An).cells 35)
  refine ⟨_, rfl, hwr, ⟨(setCells_os _ _ _).1.trans hb.os, (setCells_os _ _ _).2.1.trans hb.tape, (setCells_os _ _ _).2.2.trans hb.output, by rw [setCells_size]; exact hb.size, fun k hk => (heap_setCells_other (by omega) _ _ _).trans (hb.block k hk)⟩, by rw [setCells_size]; exact alloc_size _ _, ?_⟩
  rw [h]
  exact there_of hA
theorem an_zero : Value.agg ({} : An).cells = .agg #[.int .i64 0, .int .i64 0, .int .i64 0, .string ⟨#[]⟩, .slice none 0 0, .int .i64 0, .int .i64 0, .int .i64 0, .int .i64 0, .int .i64 0, .int .i64 0, .int .i64 0, .int .i64 0, .int .i64 0, .int .i64 0, .int .i64 0, .int .i64 0, .int .i64 0, .int .i64 0] := rfl
theorem an_one : ({} : An).cells.all (·.oneCell') = true := by
  simp [An.cells, Value.oneCell']
theorem an_size : ({} : An).cells.size = 19 := rfl
theorem an_n (n : Int) : ({} : An).cells.setIfInBounds 1 (.int .i64 n) = ({ n := n } : An).cells := rfl
/-! ### what the loop keeps -/
theorem ne_of_type {w : World} {a b : Nat} {C D : Array Value} {T U : TypeId} {f g : Nat × Nat} (h : w.heap[a]? = some (.cells C T f)) (k : w.heap[b]? = some (.cells D U g)) (hTU : T ≠ U) : a ≠ b := fun e => by
  subst e; rw [h] at k; injection k with k; injection k with _ k _; exact hTU k
/-- Blocks that are not x. -/
def Fx (x : Option Nat) (k : Nat) : Prop := some k ≠ x
/-- x is a row of numbers. -/
def Tx (w : World) (x : Option Nat) : Prop := ∀ k, x = some k → ∃ cur, w.heap[k]? = some (.cells cur 3 (0, 0))
theorem Tx.fx {w : World} {x : Option Nat} (h : Tx w x) : ∀ k, w.heap.size ≤ k → Fx x k := fun k hk e => by
  obtain ⟨cur, hc⟩ := h k e.symm
  have := lt_of_heap hc
  omega
theorem row_tx {w : World} {B n : Nat} {v : Value} {xs : List Value} (h : w.ownsRow B 3 1 v n xs) : Tx w v.ownBlock := fun k hk => by
  rcases h.2 with ⟨rfl, _⟩ | ⟨g, cap, cur, rfl, hb, hg, _⟩
  · cases hk
  · simp [Value.ownBlock] at hk; subst hk; exact ⟨cur, hg⟩
theorem row_keep {w w' : World} {B n : Nat} {v : Value} {xs : List Value} (h : w.ownsRow B 3 1 v n xs) (k : ∀ (b : Nat) (C : Array Value), w.heap[b]? = some (.cells C 3 (0, 0)) → w'.heap[b]? = some (.cells C 3 (0, 0))) : w'.ownsRow B 3 1 v n xs := by
  refine ⟨h.1, ?_⟩
  rcases h.2 with hn | ⟨g, cap, cur, rfl, hb, hg, rest⟩
  · exact .inl hn
  · exact .inr ⟨g, cap, cur, rfl, hb, k _ _ hg, rest⟩
/-- A program before its first call. -/
structure N0 (w : World) (d : FuncId) (s : ByteArray) (l p : Nat) : Prop where
  lies : L w l p
  st : ∃ prog v pd pw wv, M w p { prog := prog, todo := v, th := .nilFunc, c := { op := 0 } } ∧ One w { prog := prog, todo := v, th := .nilFunc, c := { op := 0 } } (.func (.func 27) #[] #[.pointer (some ⟨pd, 0, none⟩), .pointer (some ⟨pw, 0, none⟩)]) ∧ w.heap[pd]? = some (.cells #[.func (.func d) #[] #[]] FT (0, 0)) ∧ w.heap[pw]? = some (.cells #[wv] 22 (0, 0)) ∧ Words w wv s
theorem N0.of {w0 w : World} {prog s : ByteArray} {d : FuncId} {e : Ending} {l p pd pw : Nat} {v wv : Value} (h : Nw w0 w prog d s e l p pd pw v wv) : N0 w d s l p := ⟨h.l, prog, v, pd, pw, wv, h.m, h.one, h.pd, h.pw, h.words⟩
theorem N0.keep {w w' : World} {d : FuncId} {s : ByteArray} {l p : Nat} (h : N0 w d s l p) (k : ∀ (b : Nat) (C : Array Value) (U : TypeId), U ≠ 3 → w.heap[b]? = some (.cells C U (0, 0)) → w'.heap[b]? = some (.cells C U (0, 0))) : N0 w' d s l p := by
  obtain ⟨hl, prog, v, pd, pw, wv, h1, ⟨td, cap, cur, e1, e2, e3⟩, h3, h4, b, cap2, cur2, rfl, e5, e6⟩ := h
  exact ⟨k _ _ _ (by decide) hl, prog, v, pd, pw, _, k _ _ _ (by decide) h1, ⟨td, cap, cur, e1, k _ _ _ (by decide) e2, e3⟩, k _ _ _ (by decide) h3, k _ _ _ (by decide) h4, b, cap2, cur2, rfl, k _ _ _ (by decide) e5, e6⟩
theorem N0.first {F : Nat → Prop} {w : World} (hF : ∀ k, w.heap.size ≤ k → F k) {s : ByteArray} {l p : Nat} (h : N0 w 44 s l p) (hs : s.size = 1) (u : Nat) (hu : u < 100) (hp : Lib.parseUintB 8 s.data.toList = .ok u) (r : An) :
    Calls Tryz.prog 14 #[.pointer (some ⟨l, 0, none⟩), .agg r.cells] w (NextP p w (IS F (LGI.keepsM (List.replicate u 0) 0))) := by
  obtain ⟨hl, prog, v, pd, pw, wv, hm, ho, h3, h4, h5⟩ := h
  refine lnext_any hl hm r (fun m' w1 w2 k hh => hh.kb k) fun w1 h1 k1 s1 => ?_
  obtain ⟨td, cap, cur, g1, g2, g3, g4⟩ := ho
  refine start_any h1 rfl rfl g1 (k1 _ _ _ (by decide) (by decide) g2) g3 g4 r (fun m' w1 w2 k hh => hh.kb k) en_new fun w2 h2 k2 s2 => ?_
  have k3 := k1.trans k2
  refine newd_any (k3 _ _ _ (by decide) (by decide) h3) (k3 _ _ _ (by decide) (by decide) h4) en_initial ?_
  exact (initial_any (fun k hk => hF k (Nat.le_trans (Nat.le_trans s1 s2) hk)) h2 (h5.kb k3) hs u hu hp).mono fun e w' hh => kq_told hh rfl
/-- A program, ready for an answer that lies in a block of its own. -/
structure LI (w0 w : World) (l p rb : Nat) (x : Option Nat) (md : LGI.Md) (r : An) : Prop where
  lies : L w l p
  ge : w0.heap.size ≤ p
  bel : Below w0.heap.size w0 w
  ans : w.heap[rb]? = some (.cells r.cells 35 (0, 0))
  rge : w0.heap.size ≤ rb
  st : (∃ s u, N0 w 44 s l p ∧ s.size = 1 ∧ u < 100 ∧ Lib.parseUintB 8 s.data.toList = .ok u ∧ md = LGI.keepsM (List.replicate u 0) 0) ∨ (∃ m md0, M w p m ∧ IS (Fx x) md0 m w ∧ md0.row.length < 100 ∧ md = stepM md0 r.n ∧ r.err = 0 ∧ 0 < r.n)
theorem LI.mach {w0 w : World} {l p rb : Nat} {x : Option Nat} {md : LGI.Md} {r : An} (h : LI w0 w l p rb x md r) : ∃ m, M w p m := by
  rcases h.st with ⟨s, u, ⟨_, prog, v, pd, pw, wv, hm, _⟩, _⟩ | ⟨m, md0, hm, _⟩
  · exact ⟨_, hm⟩
  · exact ⟨_, hm⟩
theorem LI.call {w0 w : World} {l p rb : Nat} {x : Option Nat} {md : LGI.Md} {r : An} (h : LI w0 w l p rb x md r) (hx : Tx w x) :
    Calls Tryz.prog 14 #[.pointer (some ⟨l, 0, none⟩), .agg r.cells] w (NextP p w (IS (Fx x) md)) := by
  rcases h.st with ⟨s, u, hn, h1, h2, h3, rfl⟩ | ⟨m, md0, hm, hi, h1, rfl, h2, h3⟩
  · exact hn.first hx.fx h1 u h2 h3 r
  · exact inext_any hx.fx h.lies hm hi h1 r h2 h3
theorem IS.keep {x x' : Option Nat} {md : LGI.Md} {m : Ma} {w w' : World} (h : IS (Fx x) md m w) (k : ∀ (b : Nat) (C : Array Value) (U : TypeId), some b ≠ x → w.heap[b]? = some (.cells C U (0, 0)) → w'.heap[b]? = some (.cells C U (0, 0)) ∧ some b ≠ x') : IS (Fx x') md m w' := by
  obtain ⟨⟨b, cap, cur, hF, e, h1, h2⟩, h3, h4⟩ := h
  obtain ⟨k1, k2⟩ := k _ _ _ hF h1
  refine ⟨⟨b, cap, cur, k2, e, k1, h2⟩, h3, ?_⟩
  cases md with
  | wait g => exact h4
  | fork g t =>
    obtain ⟨g1, g2, b', g0, g3, g4⟩ := h4
    obtain ⟨k3, k4⟩ := k _ _ _ g0 g4
    exact ⟨g1, g2, b', k4, g3, k3⟩
/-- The row x grows, or moves into a new block. -/
theorem LI.grow {w0 w w' : World} {l p rb : Nat} {x x' : Option Nat} {md : LGI.Md} {r : An} (h : LI w0 w l p rb x md r) (hx : Tx w x) (hg : w.grownBy w' x) (hge : ∀ k, x = some k → w0.heap.size ≤ k) (hx' : ∀ k, x' = some k → x = some k ∨ w.heap.size ≤ k) : LI w0 w' l p rb x' md r := by
  have k1 : ∀ (b : Nat) (C : Array Value) (U : TypeId), some b ≠ x → w.heap[b]? = some (.cells C U (0, 0)) → w'.heap[b]? = some (.cells C U (0, 0)) ∧ some b ≠ x' := fun b C U hb hc => by
    have hlt := lt_of_heap hc
    refine ⟨(hg.block b hlt hb).trans hc, fun e => ?_⟩
    rcases hx' b e.symm with h | h
    · exact hb h.symm
    · omega
  have k2 : ∀ (b : Nat) (C : Array Value) (U : TypeId), U ≠ 3 → w.heap[b]? = some (.cells C U (0, 0)) → w'.heap[b]? = some (.cells C U (0, 0)) := fun b C U hU hc => (k1 b C U (fun e => by
    obtain ⟨cur, hcur⟩ := hx b e.symm
    exact ne_of_type hc hcur hU rfl) hc).1
  refine ⟨k2 _ _ _ (by decide) h.lies, h.ge, ?_, k2 _ _ _ (by decide) h.ans, h.rge, ?_⟩
  · exact ⟨hg.os.trans h.bel.os, hg.tape.trans h.bel.tape, hg.output.trans h.bel.output, Nat.le_trans h.bel.size hg.size, fun j hj => (hg.block j (Nat.lt_of_lt_of_le hj h.bel.size) (fun e => by have := hge j e.symm; omega)).trans (h.bel.block j hj)⟩
  · rcases h.st with ⟨s, u, hn, h1⟩ | ⟨m, md0, hm, hi, h1⟩
    · exact .inl ⟨s, u, hn.keep k2, h1⟩
    · exact .inr ⟨m, md0, k2 _ _ _ (by decide) hm, hi.keep k1, h1⟩
/-- A program that told its call, which lies in a block of its own; and an empty answer. -/
structure TD (w0 w : World) (l p rb cb : Nat) (x : Option Nat) (md : LGI.Md) (m : Ma) : Prop where
  lies : L w l p
  mach : M w p m
  is : IS (Fx x) md m w
  ge : w0.heap.size ≤ p
  bel : Below w0.heap.size w0 w
  ans : w.heap[rb]? = some (.cells ({} : An).cells 35 (0, 0))
  rge : w0.heap.size ≤ rb
  told : w.heap[cb]? = some (.cells m.c.cells 39 (0, 0))
theorem IS.at {x : Option Nat} {md : LGI.Md} {m : Ma} {w w' : World} {rb : Nat} {Z : Array Value} (h : IS (Fx x) md m w) (hr : w.heap[rb]? = some (.cells Z 35 (0, 0))) (k : ∀ b, b ≠ rb → w'.heap[b]? = w.heap[b]?) : IS (Fx x) md m w' := by
  obtain ⟨⟨b, cap, cur, hF, e, h1, h2⟩, h3, h4⟩ := h
  refine ⟨⟨b, cap, cur, hF, e, (k b (ne_of_type h1 hr (by decide))).trans h1, h2⟩, h3, ?_⟩
  cases md with
  | wait g => exact h4
  | fork g t =>
    obtain ⟨g1, g2, b', g0, g3, g4⟩ := h4
    exact ⟨g1, g2, b', g0, g3, (k b' (ne_of_type g4 hr (by decide))).trans g4⟩
theorem TD.answer {w0 w : World} {l p rb cb : Nat} {x : Option Nat} {md : LGI.Md} {m : Ma} (h : TD w0 w l p rb cb x md m) (hlen : md.row.length < 100) (n : Int) (hn : 0 < n) : LI w0 (w.setCell ⟨rb, 1, none⟩ (.int .i64 n)) l p rb x (stepM md n) { n := n } := by
  have k : ∀ b, b ≠ rb → (w.setCell ⟨rb, 1, none⟩ (.int .i64 n)).heap[b]? = w.heap[b]? := fun b hb => Below.heap_setCell _ _ _ _ hb
  exact ⟨(k l (ne_of_type h.lies h.ans (by decide))).trans h.lies, h.ge, h.bel.setCell (p := ⟨rb, 1, none⟩) h.rge _, heap_setCell_same h.ans _, h.rge, .inr ⟨m, md, (k p (ne_of_type h.mach h.ans (by decide))).trans h.mach, h.is.at h.ans k, hlen, rfl, rfl, hn⟩⟩
theorem TD.row {w0 w : World} {l p rb cb : Nat} {x : Option Nat} {md : LGI.Md} {m : Ma} (h : TD w0 w l p rb cb x md m) {B n : Nat} {v : Value} {xs : List Value} (ho : w.ownsRow B 3 1 v n xs) (z : Value) : (w.setCell ⟨rb, 1, none⟩ z).ownsRow B 3 1 v n xs :=
  row_keep ho fun b C hc => (Below.heap_setCell _ _ _ _ (ne_of_type hc h.ans (by decide))).trans hc
theorem LI.step {w0 w w1 : World} {l p rb : Nat} {x : Option Nat} {md : LGI.Md} {r : An} (h : LI w0 w l p rb x md r) {m1 : Ma} (h1 : M w1 p m1) (h3 : Mo p w w1) (h4 : IS (Fx x) md m1 w1) {W1 W2 : World} (hW1 : W1.heap[w1.heap.size]? = some (.cells m1.c.cells 39 (0, 0))) (hb : Below w1.heap.size w1 W1) (hW2 : W1.setCells rb 0 ({} : An).cells.toList = W2) :
    TD w0 W2 l p rb w1.heap.size x md m1 ∧ (∀ B n v xs, w.ownsRow B 3 1 v n xs → W2.ownsRow B 3 1 v n xs) ∧ W1.there rb 0 19 := by
  obtain ⟨m, hm⟩ := h.mach
  have k1 := Kb.mo hm h3
  have k2 := k1.trans (Kb.below hb)
  have hans := k2 _ _ _ (by decide) (by decide) h.ans
  have k : ∀ b, b ≠ rb → W2.heap[b]? = W1.heap[b]? := fun b hne => by rw [← hW2]; exact heap_setCells_other hne _ _ _
  have hp : p ≠ rb := ne_of_type hm h.ans (by decide)
  refine ⟨⟨?_, ?_, ?_, h.ge, ?_, ?_, h.rge, ?_⟩, fun B n v xs ho => ?_, there_of hans⟩
  · exact (k l (ne_of_type (h.lies.kb k2) hans (by decide))).trans (h.lies.kb k2)
  · exact (k p hp).trans (h1.below hb)
  · exact (h4.kb (Kb.below hb)).at hans k
  · have hb1 := Mo.bel h.bel h3 h.ge (Nat.le_refl _)
    have hb2 := hb1.trans (hb.mono hb1.size)
    rw [← hW2]
    exact ⟨(setCells_os _ _ _).1.trans hb2.os, (setCells_os _ _ _).2.1.trans hb2.tape, (setCells_os _ _ _).2.2.trans hb2.output, by rw [setCells_size]; exact hb2.size, fun j hj => (heap_setCells_other (by have := h.rge; omega) _ _ _).trans (hb2.block j hj)⟩
  · rw [← hW2, heap_setCells _ _ _ _ hans, putA_whole (show ({} : An).cells.size = r.cells.size from rfl)]
  · exact (k _ (ne_of_type hW1 hans (by decide))).trans hW1
  · exact row_keep ho fun b C hc => (k b (ne_of_type (k2 _ _ _ (by decide) (by decide) hc) hans (by decide))).trans (k2 _ _ _ (by decide) (by decide) hc)
theorem LI.start {w0 w1 w : World} {prog s : ByteArray} {e0 : Ending} {l p pd pw rb T : Nat} {v wv : Value} (h : Nw w1 w prog 44 s e0 l p pd pw v wv) (hs : s.size = 1) (hT : T < 100) (hp : Lib.parseUintB 8 s.data.toList = .ok T) (hb : Below w0.heap.size w0 w1) (hr : w.heap[rb]? = some (.cells ({} : An).cells 35 (0, 0))) (hg : w0.heap.size ≤ rb) :
    LI w0 w l p rb none (LGI.keepsM (List.replicate T 0) 0) {} :=
  ⟨h.l, Nat.le_trans hb.size h.ge, hb.trans (h.bel.mono hb.size), hr, hg, .inl ⟨s, T, N0.of h, hs, hT, hp, rfl⟩⟩
end Go.Proofs.YtlhlehdajkoogaaGreatDoor
